/- The region of the reference's Text that lays the values of the numbers: in whatever order. -/
import Derived.Test.YtnacklbaphobbaaGreatDoorU12
import Derived.Test.YtnacklbaphobbaaGreatDoorN3
set_option linter.unusedSimpArgs false
set_option linter.unusedVariables false
namespace Go.Proofs.YtnacklbaphobbaaGreatDoor
open Go.RowKit

theorem ref_dec (n : Int) (w : World) (h0 : 0 ≤ n) (h1 : n ≤ 10000) : Calls Tryz.prog 42 #[.int .i64 n] w fun e w' => e = .returned (.string (S (decW n))) ∧ w = w' := by
  obtain ⟨u, rfl⟩ : ∃ u : Nat, n = (u : Int) := ⟨n.toNat, by omega⟩
  have K := Lib.hid (fun W => ref_DecimalU u W (by omega))
  go_enter Tryz.func42, Tryz.ntmps42
  go_wp2_with (go_at_call 66; refine (K.out _).mono ?_; rintro e w2 ⟨rfl, rfl⟩)
  go_ret
  exact ⟨rfl, rfl⟩
theorem k_rdec {B : Nat} {w0 w : World} {K : List (Nat × Kd)} {a : Act} {o : Oper} {d : Nat} {x : Operand} {n : Int} {at_ : Array TypeId} (ho : o.op = .call { callee := .value (.func 42), args := #[x], argTypes := at_ }) (hd : o.dst = some d) (hk : K.lookup d = some (.val (.string (S (decW n))))) (hx : a.eval x = .int .i64 n) (hn : 0 ≤ n ∧ n ≤ 10000) : Meets Tryz.prog (tabK B w0 K) o a w := by
  refine meets_call (f := 42) (args := #[.int .i64 n]) ho rfl rfl (by simp [hx]) Tryz.func42 (by kernel_rfl) (by kernel_rfl) fun d' h' => ?_
  refine (ref_dec n w hn.1 hn.2).mono ?_
  rintro e w' ⟨rfl, rfl⟩
  exact ⟨_, rfl, Below.refl _ _, tab_o (w := w) hd hk rfl d' h'⟩
theorem bs_1 (w : World) (u0 : ByteArray) : (Instr.buildSlice 59 1 #[(0, .string u0)]).run Tryz.prog w = .ok (.slice (some ⟨w.heap.size, 0, none⟩) 1 1) (w.alloc (.cells #[.string u0] 9)) := by kernel_rfl
theorem k_strs1 {B : Nat} {w0 w : World} {K : List (Nat × Kd)} {a : Act} {o : Oper} {d : Nat} {x0 : Operand} {p0 : List UInt8} (ho : o.op = .buildSlice 59 1 #[(0, x0)]) (hd : o.dst = some d) (hk : K.lookup d = some (.strs [p0])) (h0 : a.eval x0 = .string (S p0)) (hB : B ≤ w.heap.size) : Meets Tryz.prog (tabK B w0 K) o a w := by
  refine meets_build (e := 9) ho #[.string (S p0)] ?_ (tab_o hd hk (strs_lit w B hB [p0] 9 (by simp [maxLen])))
  simp only [List.map_toArray, List.map_cons, List.map_nil, h0]
  exact bs_1 w (S p0)
theorem bs_strss (w : World) (A0 A1 A2 A3 A4 A5 A6 A7 A8 A9 A10 A11 : Option Addr) (n0 c0 n1 c1 n2 c2 n3 c3 n4 c4 n5 c5 n6 c6 n7 c7 n8 c8 n9 c9 n10 c10 n11 c11 : Nat) : (Instr.buildSlice 60 12 #[(0, .slice A0 n0 c0), (1, .slice A1 n1 c1), (2, .slice A2 n2 c2), (3, .slice A3 n3 c3), (4, .slice A4 n4 c4), (5, .slice A5 n5 c5), (6, .slice A6 n6 c6), (7, .slice A7 n7 c7), (8, .slice A8 n8 c8), (9, .slice A9 n9 c9), (10, .slice A10 n10 c10), (11, .slice A11 n11 c11)]).run Tryz.prog w = .ok (.slice (some ⟨w.heap.size, 0, none⟩) 12 12) (w.alloc (.cells #[.slice A0 n0 c0, .slice A1 n1 c1, .slice A2 n2 c2, .slice A3 n3 c3, .slice A4 n4 c4, .slice A5 n5 c5, .slice A6 n6 c6, .slice A7 n7 c7, .slice A8 n8 c8, .slice A9 n9 c9, .slice A10 n10 c10, .slice A11 n11 c11] 59)) := by kernel_rfl
theorem k_strss {w0 w : World} {K : List (Nat × Kd)} {a : Act} {o : Oper} {d : Nat} {r : Rul} {x0 x1 x2 x3 x4 x5 x6 x7 x8 x9 x10 x11 : Operand} {v0 v1 v2 v3 v4 v5 v6 v7 v8 v9 v10 v11 : Value} (ho : o.op = .buildSlice 60 12 #[(0, x0), (1, x1), (2, x2), (3, x3), (4, x4), (5, x5), (6, x6), (7, x7), (8, x8), (9, x9), (10, x10), (11, x11)]) (hd : o.dst = some d) (hk : K.lookup d = some (.strss (headVals r))) (hB : w0.heap.size ≤ w.heap.size)
(h0 : a.eval x0 = v0) (s0 : Sl 1 elStr w (Fr w0.heap.size w) v0 [r.name]) (h1 : a.eval x1 = v1) (s1 : Sl 1 elStr w (Fr w0.heap.size w) v1 [decW r.side]) (h2 : a.eval x2 = v2) (s2 : Sl 1 elStr w (Fr w0.heap.size w) v2 [decW r.inns]) (h3 : a.eval x3 = v3) (s3 : Sl 1 elStr w (Fr w0.heap.size w) v3 [decW r.overs]) (h4 : a.eval x4 = v4) (s4 : Sl 1 elStr w (Fr w0.heap.size w) v4 [decW r.balls]) (h5 : a.eval x5 = v5) (s5 : Sl 1 elStr w (Fr w0.heap.size w) v5 [decW r.quota]) (h6 : a.eval x6 = v6) (s6 : Sl 1 elStr w (Fr w0.heap.size w) v6 [decW r.wide, decW r.noball]) (h7 : a.eval x7 = v7) (s7 : Sl 1 elStr w (Fr w0.heap.size w) v7 [freeW r.free]) (h8 : a.eval x8 = v8) (s8 : Sl 1 elStr w (Fr w0.heap.size w) v8 [decW r.newball]) (h9 : a.eval x9 = v9) (s9 : Sl 1 elStr w (Fr w0.heap.size w) v9 [decW r.follow]) (h10 : a.eval x10 = v10) (s10 : Sl 1 elStr w (Fr w0.heap.size w) v10 [decW r.reviews]) (h11 : a.eval x11 = v11) (s11 : Sl 1 elStr w (Fr w0.heap.size w) v11 [decW r.outside]) : Meets Tryz.prog (tabK w0.heap.size w0 K) o a w := by
  obtain ⟨A0, c0, rfl, _⟩ := s0.shape
  obtain ⟨A1, c1, rfl, _⟩ := s1.shape
  obtain ⟨A2, c2, rfl, _⟩ := s2.shape
  obtain ⟨A3, c3, rfl, _⟩ := s3.shape
  obtain ⟨A4, c4, rfl, _⟩ := s4.shape
  obtain ⟨A5, c5, rfl, _⟩ := s5.shape
  obtain ⟨A6, c6, rfl, _⟩ := s6.shape
  obtain ⟨A7, c7, rfl, _⟩ := s7.shape
  obtain ⟨A8, c8, rfl, _⟩ := s8.shape
  obtain ⟨A9, c9, rfl, _⟩ := s9.shape
  obtain ⟨A10, c10, rfl, _⟩ := s10.shape
  obtain ⟨A11, c11, rfl, _⟩ := s11.shape
  refine meets_build (e := 59) ho #[.slice A0 1 c0, .slice A1 1 c1, .slice A2 1 c2, .slice A3 1 c3, .slice A4 1 c4, .slice A5 1 c5, .slice A6 2 c6, .slice A7 1 c7, .slice A8 1 c8, .slice A9 1 c9, .slice A10 1 c10, .slice A11 1 c11] ?_ (tab_o hd hk (strss_lit w w0.heap.size hB (headVals r) [.slice A0 1 c0, .slice A1 1 c1, .slice A2 1 c2, .slice A3 1 c3, .slice A4 1 c4, .slice A5 1 c5, .slice A6 2 c6, .slice A7 1 c7, .slice A8 1 c8, .slice A9 1 c9, .slice A10 1 c10, .slice A11 1 c11] 59 rfl (by unfold headVals; simp [maxLen]) fun i x cs h1 h2 => ?_))
  · simp only [List.map_toArray, List.map_cons, List.map_nil, h0, h1, h2, h3, h4, h5, h6, h7, h8, h9, h10, h11]
    exact bs_strss w A0 A1 A2 A3 A4 A5 A6 A7 A8 A9 A10 A11 1 c0 1 c1 1 c2 1 c3 1 c4 1 c5 2 c6 1 c7 1 c8 1 c9 1 c10 1 c11
  · have hlt : i < 12 := (List.getElem?_eq_some_iff.1 h2).1
    unfold headVals at h1
    match i, hlt with
    | 0, _ => simp at h1 h2; subst h1; subst h2; exact s0
    | 1, _ => simp at h1 h2; subst h1; subst h2; exact s1
    | 2, _ => simp at h1 h2; subst h1; subst h2; exact s2
    | 3, _ => simp at h1 h2; subst h1; subst h2; exact s3
    | 4, _ => simp at h1 h2; subst h1; subst h2; exact s4
    | 5, _ => simp at h1 h2; subst h1; subst h2; exact s5
    | 6, _ => simp at h1 h2; subst h1; subst h2; exact s6
    | 7, _ => simp at h1 h2; subst h1; subst h2; exact s7
    | 8, _ => simp at h1 h2; subst h1; subst h2; exact s8
    | 9, _ => simp at h1 h2; subst h1; subst h2; exact s9
    | 10, _ => simp at h1 h2; subst h1; subst h2; exact s10
    | 11, _ => simp at h1 h2; subst h1; subst h2; exact s11
noncomputable def rxOps : Array Oper := (Tryz.f22.body.bind (findR 7)).getD #[]
def rxKinds (r : Rul) (g : Nat) : List (Nat × Kd) := [(1, .val (.pointer (some ⟨g, 0, none⟩))), (5, .val (.string (S (freeW r.free)))), (19, .val (.pointer (some ⟨g, 0, none⟩))), (20, .val (.string (S r.name))), (21, .strs [r.name]), (22, .val (.pointer (some ⟨g, 1, none⟩))), (23, .val (.int .i64 r.side)), (24, .val (.string (S (decW r.side)))), (25, .strs [(decW r.side)]), (26, .val (.pointer (some ⟨g, 2, none⟩))), (27, .val (.int .i64 r.inns)), (28, .val (.string (S (decW r.inns)))), (29, .strs [(decW r.inns)]), (30, .val (.pointer (some ⟨g, 3, none⟩))), (31, .val (.int .i64 r.overs)), (32, .val (.string (S (decW r.overs)))), (33, .strs [(decW r.overs)]), (34, .val (.pointer (some ⟨g, 4, none⟩))), (35, .val (.int .i64 r.balls)), (36, .val (.string (S (decW r.balls)))), (37, .strs [(decW r.balls)]), (38, .val (.pointer (some ⟨g, 5, none⟩))), (39, .val (.int .i64 r.quota)), (40, .val (.string (S (decW r.quota)))), (41, .strs [(decW r.quota)]), (42, .val (.pointer (some ⟨g, 6, none⟩))), (43, .val (.int .i64 r.wide)), (44, .val (.string (S (decW r.wide)))), (45, .val (.pointer (some ⟨g, 7, none⟩))), (46, .val (.int .i64 r.noball)), (47, .val (.string (S (decW r.noball)))), (48, .strs [(decW r.wide), (decW r.noball)]), (49, .val (.string (S (freeW r.free)))), (50, .strs [(freeW r.free)]), (51, .val (.pointer (some ⟨g, 9, none⟩))), (52, .val (.int .i64 r.newball)), (53, .val (.string (S (decW r.newball)))), (54, .strs [(decW r.newball)]), (55, .val (.pointer (some ⟨g, 10, none⟩))), (56, .val (.int .i64 r.follow)), (57, .val (.string (S (decW r.follow)))), (58, .strs [(decW r.follow)]), (59, .val (.pointer (some ⟨g, 11, none⟩))), (60, .val (.int .i64 r.reviews)), (61, .val (.string (S (decW r.reviews)))), (62, .strs [(decW r.reviews)]), (63, .val (.pointer (some ⟨g, 12, none⟩))), (64, .val (.int .i64 r.outside)), (65, .val (.string (S (decW r.outside)))), (66, .strs [(decW r.outside)]), (67, .strss (headVals r)), (6, .strss (headVals r))]
def rxNeeds : List (List Nat) := [[1], [19], [20], [1], [22], [23], [24], [1], [26], [27], [28], [1], [30], [31], [32], [1], [34], [35], [36], [1], [38], [39], [40], [1], [42], [43], [1], [45], [46], [44, 47], [5], [49], [1], [51], [52], [53], [1], [55], [56], [57], [1], [59], [60], [61], [1], [63], [64], [65], [21, 25, 29, 33, 37, 41, 48, 50, 54, 58, 62, 66], [67]]
section
variable {w0 : World} {r : Rul} {pv : Value} {g : Nat}
theorem rx_0 (hR : ∀ x ∈ rulInts r, 0 ≤ x ∧ x ≤ 10000) {o : Oper} (ho : rxOps[0]? = some o) (a : Act) (w : World) (hG : TxR w0 g r pv w) (hn : ∀ x ∈ rxNeeds.getD 0 [], Holds (tabK w0.heap.size w0 (rxKinds r g)) a w x) : Meets Tryz.prog (tabK w0.heap.size w0 (rxKinds r g)) o a w := by
  have e := op_of (show (rxOps[0]?).map (fun o => (o.op, o.dst)) = some (.fieldAddr 24 (.tmp 1) 0, some 19) by kernel_rfl) ho
  exact meets_field e.1 (holds_val (hn 1 (of_decide_eq_true (by kernel_rfl))) rfl).2 (fld_0 g w) (tab_o e.2 rfl rfl)
theorem rx_1 (hR : ∀ x ∈ rulInts r, 0 ≤ x ∧ x ≤ 10000) {o : Oper} (ho : rxOps[1]? = some o) (a : Act) (w : World) (hG : TxR w0 g r pv w) (hn : ∀ x ∈ rxNeeds.getD 1 [], Holds (tabK w0.heap.size w0 (rxKinds r g)) a w x) : Meets Tryz.prog (tabK w0.heap.size w0 (rxKinds r g)) o a w := by
  have e := op_of (show (rxOps[1]?).map (fun o => (o.op, o.dst)) = some (.load 9 (.tmp 19), some 20) by kernel_rfl) ho
  exact meets_load e.1 (holds_val (hn 19 (of_decide_eq_true (by kernel_rfl))) rfl).2 (loadAt_cell (by kernel_rfl) ((hG.lies.blk.cell 0).trans rfl)) (tab_o e.2 rfl rfl)
theorem rx_2 (hR : ∀ x ∈ rulInts r, 0 ≤ x ∧ x ≤ 10000) {o : Oper} (ho : rxOps[2]? = some o) (a : Act) (w : World) (hG : TxR w0 g r pv w) (hn : ∀ x ∈ rxNeeds.getD 2 [], Holds (tabK w0.heap.size w0 (rxKinds r g)) a w x) : Meets Tryz.prog (tabK w0.heap.size w0 (rxKinds r g)) o a w := by
  have e := op_of (show (rxOps[2]?).map (fun o => (o.op, o.dst)) = some (.buildSlice 59 1 #[(0, .tmp 20)], some 21) by kernel_rfl) ho
  exact k_strs1 e.1 e.2 rfl (holds_val (hn 20 (of_decide_eq_true (by kernel_rfl))) rfl).2 hG.size
theorem rx_3 (hR : ∀ x ∈ rulInts r, 0 ≤ x ∧ x ≤ 10000) {o : Oper} (ho : rxOps[3]? = some o) (a : Act) (w : World) (hG : TxR w0 g r pv w) (hn : ∀ x ∈ rxNeeds.getD 3 [], Holds (tabK w0.heap.size w0 (rxKinds r g)) a w x) : Meets Tryz.prog (tabK w0.heap.size w0 (rxKinds r g)) o a w := by
  have e := op_of (show (rxOps[3]?).map (fun o => (o.op, o.dst)) = some (.fieldAddr 24 (.tmp 1) 1, some 22) by kernel_rfl) ho
  exact meets_field e.1 (holds_val (hn 1 (of_decide_eq_true (by kernel_rfl))) rfl).2 (fld_1 g w) (tab_o e.2 rfl rfl)
theorem rx_4 (hR : ∀ x ∈ rulInts r, 0 ≤ x ∧ x ≤ 10000) {o : Oper} (ho : rxOps[4]? = some o) (a : Act) (w : World) (hG : TxR w0 g r pv w) (hn : ∀ x ∈ rxNeeds.getD 4 [], Holds (tabK w0.heap.size w0 (rxKinds r g)) a w x) : Meets Tryz.prog (tabK w0.heap.size w0 (rxKinds r g)) o a w := by
  have e := op_of (show (rxOps[4]?).map (fun o => (o.op, o.dst)) = some (.load 3 (.tmp 22), some 23) by kernel_rfl) ho
  exact meets_load e.1 (holds_val (hn 22 (of_decide_eq_true (by kernel_rfl))) rfl).2 (loadAt_cell (by kernel_rfl) ((hG.lies.blk.cell 1).trans rfl)) (tab_o e.2 rfl rfl)
theorem rx_5 (hR : ∀ x ∈ rulInts r, 0 ≤ x ∧ x ≤ 10000) {o : Oper} (ho : rxOps[5]? = some o) (a : Act) (w : World) (hG : TxR w0 g r pv w) (hn : ∀ x ∈ rxNeeds.getD 5 [], Holds (tabK w0.heap.size w0 (rxKinds r g)) a w x) : Meets Tryz.prog (tabK w0.heap.size w0 (rxKinds r g)) o a w := by
  have e := op_of (show (rxOps[5]?).map (fun o => (o.op, o.dst)) = some (.call { callee := .value (.func 42), args := #[.tmp 23], argTypes := #[3] }, some 24) by kernel_rfl) ho
  exact k_rdec e.1 e.2 rfl (holds_val (hn 23 (of_decide_eq_true (by kernel_rfl))) rfl).2 (hR _ (by simp [rulInts]))
theorem rx_6 (hR : ∀ x ∈ rulInts r, 0 ≤ x ∧ x ≤ 10000) {o : Oper} (ho : rxOps[6]? = some o) (a : Act) (w : World) (hG : TxR w0 g r pv w) (hn : ∀ x ∈ rxNeeds.getD 6 [], Holds (tabK w0.heap.size w0 (rxKinds r g)) a w x) : Meets Tryz.prog (tabK w0.heap.size w0 (rxKinds r g)) o a w := by
  have e := op_of (show (rxOps[6]?).map (fun o => (o.op, o.dst)) = some (.buildSlice 59 1 #[(0, .tmp 24)], some 25) by kernel_rfl) ho
  exact k_strs1 e.1 e.2 rfl (holds_val (hn 24 (of_decide_eq_true (by kernel_rfl))) rfl).2 hG.size
theorem rx_7 (hR : ∀ x ∈ rulInts r, 0 ≤ x ∧ x ≤ 10000) {o : Oper} (ho : rxOps[7]? = some o) (a : Act) (w : World) (hG : TxR w0 g r pv w) (hn : ∀ x ∈ rxNeeds.getD 7 [], Holds (tabK w0.heap.size w0 (rxKinds r g)) a w x) : Meets Tryz.prog (tabK w0.heap.size w0 (rxKinds r g)) o a w := by
  have e := op_of (show (rxOps[7]?).map (fun o => (o.op, o.dst)) = some (.fieldAddr 24 (.tmp 1) 2, some 26) by kernel_rfl) ho
  exact meets_field e.1 (holds_val (hn 1 (of_decide_eq_true (by kernel_rfl))) rfl).2 (fld_2 g w) (tab_o e.2 rfl rfl)
theorem rx_8 (hR : ∀ x ∈ rulInts r, 0 ≤ x ∧ x ≤ 10000) {o : Oper} (ho : rxOps[8]? = some o) (a : Act) (w : World) (hG : TxR w0 g r pv w) (hn : ∀ x ∈ rxNeeds.getD 8 [], Holds (tabK w0.heap.size w0 (rxKinds r g)) a w x) : Meets Tryz.prog (tabK w0.heap.size w0 (rxKinds r g)) o a w := by
  have e := op_of (show (rxOps[8]?).map (fun o => (o.op, o.dst)) = some (.load 3 (.tmp 26), some 27) by kernel_rfl) ho
  exact meets_load e.1 (holds_val (hn 26 (of_decide_eq_true (by kernel_rfl))) rfl).2 (loadAt_cell (by kernel_rfl) ((hG.lies.blk.cell 2).trans rfl)) (tab_o e.2 rfl rfl)
theorem rx_9 (hR : ∀ x ∈ rulInts r, 0 ≤ x ∧ x ≤ 10000) {o : Oper} (ho : rxOps[9]? = some o) (a : Act) (w : World) (hG : TxR w0 g r pv w) (hn : ∀ x ∈ rxNeeds.getD 9 [], Holds (tabK w0.heap.size w0 (rxKinds r g)) a w x) : Meets Tryz.prog (tabK w0.heap.size w0 (rxKinds r g)) o a w := by
  have e := op_of (show (rxOps[9]?).map (fun o => (o.op, o.dst)) = some (.call { callee := .value (.func 42), args := #[.tmp 27], argTypes := #[3] }, some 28) by kernel_rfl) ho
  exact k_rdec e.1 e.2 rfl (holds_val (hn 27 (of_decide_eq_true (by kernel_rfl))) rfl).2 (hR _ (by simp [rulInts]))
theorem rx_10 (hR : ∀ x ∈ rulInts r, 0 ≤ x ∧ x ≤ 10000) {o : Oper} (ho : rxOps[10]? = some o) (a : Act) (w : World) (hG : TxR w0 g r pv w) (hn : ∀ x ∈ rxNeeds.getD 10 [], Holds (tabK w0.heap.size w0 (rxKinds r g)) a w x) : Meets Tryz.prog (tabK w0.heap.size w0 (rxKinds r g)) o a w := by
  have e := op_of (show (rxOps[10]?).map (fun o => (o.op, o.dst)) = some (.buildSlice 59 1 #[(0, .tmp 28)], some 29) by kernel_rfl) ho
  exact k_strs1 e.1 e.2 rfl (holds_val (hn 28 (of_decide_eq_true (by kernel_rfl))) rfl).2 hG.size
theorem rx_11 (hR : ∀ x ∈ rulInts r, 0 ≤ x ∧ x ≤ 10000) {o : Oper} (ho : rxOps[11]? = some o) (a : Act) (w : World) (hG : TxR w0 g r pv w) (hn : ∀ x ∈ rxNeeds.getD 11 [], Holds (tabK w0.heap.size w0 (rxKinds r g)) a w x) : Meets Tryz.prog (tabK w0.heap.size w0 (rxKinds r g)) o a w := by
  have e := op_of (show (rxOps[11]?).map (fun o => (o.op, o.dst)) = some (.fieldAddr 24 (.tmp 1) 3, some 30) by kernel_rfl) ho
  exact meets_field e.1 (holds_val (hn 1 (of_decide_eq_true (by kernel_rfl))) rfl).2 (fld_3 g w) (tab_o e.2 rfl rfl)
theorem rx_12 (hR : ∀ x ∈ rulInts r, 0 ≤ x ∧ x ≤ 10000) {o : Oper} (ho : rxOps[12]? = some o) (a : Act) (w : World) (hG : TxR w0 g r pv w) (hn : ∀ x ∈ rxNeeds.getD 12 [], Holds (tabK w0.heap.size w0 (rxKinds r g)) a w x) : Meets Tryz.prog (tabK w0.heap.size w0 (rxKinds r g)) o a w := by
  have e := op_of (show (rxOps[12]?).map (fun o => (o.op, o.dst)) = some (.load 3 (.tmp 30), some 31) by kernel_rfl) ho
  exact meets_load e.1 (holds_val (hn 30 (of_decide_eq_true (by kernel_rfl))) rfl).2 (loadAt_cell (by kernel_rfl) ((hG.lies.blk.cell 3).trans rfl)) (tab_o e.2 rfl rfl)
theorem rx_13 (hR : ∀ x ∈ rulInts r, 0 ≤ x ∧ x ≤ 10000) {o : Oper} (ho : rxOps[13]? = some o) (a : Act) (w : World) (hG : TxR w0 g r pv w) (hn : ∀ x ∈ rxNeeds.getD 13 [], Holds (tabK w0.heap.size w0 (rxKinds r g)) a w x) : Meets Tryz.prog (tabK w0.heap.size w0 (rxKinds r g)) o a w := by
  have e := op_of (show (rxOps[13]?).map (fun o => (o.op, o.dst)) = some (.call { callee := .value (.func 42), args := #[.tmp 31], argTypes := #[3] }, some 32) by kernel_rfl) ho
  exact k_rdec e.1 e.2 rfl (holds_val (hn 31 (of_decide_eq_true (by kernel_rfl))) rfl).2 (hR _ (by simp [rulInts]))
theorem rx_14 (hR : ∀ x ∈ rulInts r, 0 ≤ x ∧ x ≤ 10000) {o : Oper} (ho : rxOps[14]? = some o) (a : Act) (w : World) (hG : TxR w0 g r pv w) (hn : ∀ x ∈ rxNeeds.getD 14 [], Holds (tabK w0.heap.size w0 (rxKinds r g)) a w x) : Meets Tryz.prog (tabK w0.heap.size w0 (rxKinds r g)) o a w := by
  have e := op_of (show (rxOps[14]?).map (fun o => (o.op, o.dst)) = some (.buildSlice 59 1 #[(0, .tmp 32)], some 33) by kernel_rfl) ho
  exact k_strs1 e.1 e.2 rfl (holds_val (hn 32 (of_decide_eq_true (by kernel_rfl))) rfl).2 hG.size
theorem rx_15 (hR : ∀ x ∈ rulInts r, 0 ≤ x ∧ x ≤ 10000) {o : Oper} (ho : rxOps[15]? = some o) (a : Act) (w : World) (hG : TxR w0 g r pv w) (hn : ∀ x ∈ rxNeeds.getD 15 [], Holds (tabK w0.heap.size w0 (rxKinds r g)) a w x) : Meets Tryz.prog (tabK w0.heap.size w0 (rxKinds r g)) o a w := by
  have e := op_of (show (rxOps[15]?).map (fun o => (o.op, o.dst)) = some (.fieldAddr 24 (.tmp 1) 4, some 34) by kernel_rfl) ho
  exact meets_field e.1 (holds_val (hn 1 (of_decide_eq_true (by kernel_rfl))) rfl).2 (fld_4 g w) (tab_o e.2 rfl rfl)
theorem rx_16 (hR : ∀ x ∈ rulInts r, 0 ≤ x ∧ x ≤ 10000) {o : Oper} (ho : rxOps[16]? = some o) (a : Act) (w : World) (hG : TxR w0 g r pv w) (hn : ∀ x ∈ rxNeeds.getD 16 [], Holds (tabK w0.heap.size w0 (rxKinds r g)) a w x) : Meets Tryz.prog (tabK w0.heap.size w0 (rxKinds r g)) o a w := by
  have e := op_of (show (rxOps[16]?).map (fun o => (o.op, o.dst)) = some (.load 3 (.tmp 34), some 35) by kernel_rfl) ho
  exact meets_load e.1 (holds_val (hn 34 (of_decide_eq_true (by kernel_rfl))) rfl).2 (loadAt_cell (by kernel_rfl) ((hG.lies.blk.cell 4).trans rfl)) (tab_o e.2 rfl rfl)
theorem rx_17 (hR : ∀ x ∈ rulInts r, 0 ≤ x ∧ x ≤ 10000) {o : Oper} (ho : rxOps[17]? = some o) (a : Act) (w : World) (hG : TxR w0 g r pv w) (hn : ∀ x ∈ rxNeeds.getD 17 [], Holds (tabK w0.heap.size w0 (rxKinds r g)) a w x) : Meets Tryz.prog (tabK w0.heap.size w0 (rxKinds r g)) o a w := by
  have e := op_of (show (rxOps[17]?).map (fun o => (o.op, o.dst)) = some (.call { callee := .value (.func 42), args := #[.tmp 35], argTypes := #[3] }, some 36) by kernel_rfl) ho
  exact k_rdec e.1 e.2 rfl (holds_val (hn 35 (of_decide_eq_true (by kernel_rfl))) rfl).2 (hR _ (by simp [rulInts]))
theorem rx_18 (hR : ∀ x ∈ rulInts r, 0 ≤ x ∧ x ≤ 10000) {o : Oper} (ho : rxOps[18]? = some o) (a : Act) (w : World) (hG : TxR w0 g r pv w) (hn : ∀ x ∈ rxNeeds.getD 18 [], Holds (tabK w0.heap.size w0 (rxKinds r g)) a w x) : Meets Tryz.prog (tabK w0.heap.size w0 (rxKinds r g)) o a w := by
  have e := op_of (show (rxOps[18]?).map (fun o => (o.op, o.dst)) = some (.buildSlice 59 1 #[(0, .tmp 36)], some 37) by kernel_rfl) ho
  exact k_strs1 e.1 e.2 rfl (holds_val (hn 36 (of_decide_eq_true (by kernel_rfl))) rfl).2 hG.size
theorem rx_19 (hR : ∀ x ∈ rulInts r, 0 ≤ x ∧ x ≤ 10000) {o : Oper} (ho : rxOps[19]? = some o) (a : Act) (w : World) (hG : TxR w0 g r pv w) (hn : ∀ x ∈ rxNeeds.getD 19 [], Holds (tabK w0.heap.size w0 (rxKinds r g)) a w x) : Meets Tryz.prog (tabK w0.heap.size w0 (rxKinds r g)) o a w := by
  have e := op_of (show (rxOps[19]?).map (fun o => (o.op, o.dst)) = some (.fieldAddr 24 (.tmp 1) 5, some 38) by kernel_rfl) ho
  exact meets_field e.1 (holds_val (hn 1 (of_decide_eq_true (by kernel_rfl))) rfl).2 (fld_5 g w) (tab_o e.2 rfl rfl)
theorem rx_20 (hR : ∀ x ∈ rulInts r, 0 ≤ x ∧ x ≤ 10000) {o : Oper} (ho : rxOps[20]? = some o) (a : Act) (w : World) (hG : TxR w0 g r pv w) (hn : ∀ x ∈ rxNeeds.getD 20 [], Holds (tabK w0.heap.size w0 (rxKinds r g)) a w x) : Meets Tryz.prog (tabK w0.heap.size w0 (rxKinds r g)) o a w := by
  have e := op_of (show (rxOps[20]?).map (fun o => (o.op, o.dst)) = some (.load 3 (.tmp 38), some 39) by kernel_rfl) ho
  exact meets_load e.1 (holds_val (hn 38 (of_decide_eq_true (by kernel_rfl))) rfl).2 (loadAt_cell (by kernel_rfl) ((hG.lies.blk.cell 5).trans rfl)) (tab_o e.2 rfl rfl)
theorem rx_21 (hR : ∀ x ∈ rulInts r, 0 ≤ x ∧ x ≤ 10000) {o : Oper} (ho : rxOps[21]? = some o) (a : Act) (w : World) (hG : TxR w0 g r pv w) (hn : ∀ x ∈ rxNeeds.getD 21 [], Holds (tabK w0.heap.size w0 (rxKinds r g)) a w x) : Meets Tryz.prog (tabK w0.heap.size w0 (rxKinds r g)) o a w := by
  have e := op_of (show (rxOps[21]?).map (fun o => (o.op, o.dst)) = some (.call { callee := .value (.func 42), args := #[.tmp 39], argTypes := #[3] }, some 40) by kernel_rfl) ho
  exact k_rdec e.1 e.2 rfl (holds_val (hn 39 (of_decide_eq_true (by kernel_rfl))) rfl).2 (hR _ (by simp [rulInts]))
theorem rx_22 (hR : ∀ x ∈ rulInts r, 0 ≤ x ∧ x ≤ 10000) {o : Oper} (ho : rxOps[22]? = some o) (a : Act) (w : World) (hG : TxR w0 g r pv w) (hn : ∀ x ∈ rxNeeds.getD 22 [], Holds (tabK w0.heap.size w0 (rxKinds r g)) a w x) : Meets Tryz.prog (tabK w0.heap.size w0 (rxKinds r g)) o a w := by
  have e := op_of (show (rxOps[22]?).map (fun o => (o.op, o.dst)) = some (.buildSlice 59 1 #[(0, .tmp 40)], some 41) by kernel_rfl) ho
  exact k_strs1 e.1 e.2 rfl (holds_val (hn 40 (of_decide_eq_true (by kernel_rfl))) rfl).2 hG.size
theorem rx_23 (hR : ∀ x ∈ rulInts r, 0 ≤ x ∧ x ≤ 10000) {o : Oper} (ho : rxOps[23]? = some o) (a : Act) (w : World) (hG : TxR w0 g r pv w) (hn : ∀ x ∈ rxNeeds.getD 23 [], Holds (tabK w0.heap.size w0 (rxKinds r g)) a w x) : Meets Tryz.prog (tabK w0.heap.size w0 (rxKinds r g)) o a w := by
  have e := op_of (show (rxOps[23]?).map (fun o => (o.op, o.dst)) = some (.fieldAddr 24 (.tmp 1) 6, some 42) by kernel_rfl) ho
  exact meets_field e.1 (holds_val (hn 1 (of_decide_eq_true (by kernel_rfl))) rfl).2 (fld_6 g w) (tab_o e.2 rfl rfl)
theorem rx_24 (hR : ∀ x ∈ rulInts r, 0 ≤ x ∧ x ≤ 10000) {o : Oper} (ho : rxOps[24]? = some o) (a : Act) (w : World) (hG : TxR w0 g r pv w) (hn : ∀ x ∈ rxNeeds.getD 24 [], Holds (tabK w0.heap.size w0 (rxKinds r g)) a w x) : Meets Tryz.prog (tabK w0.heap.size w0 (rxKinds r g)) o a w := by
  have e := op_of (show (rxOps[24]?).map (fun o => (o.op, o.dst)) = some (.load 3 (.tmp 42), some 43) by kernel_rfl) ho
  exact meets_load e.1 (holds_val (hn 42 (of_decide_eq_true (by kernel_rfl))) rfl).2 (loadAt_cell (by kernel_rfl) ((hG.lies.blk.cell 6).trans rfl)) (tab_o e.2 rfl rfl)
theorem rx_25 (hR : ∀ x ∈ rulInts r, 0 ≤ x ∧ x ≤ 10000) {o : Oper} (ho : rxOps[25]? = some o) (a : Act) (w : World) (hG : TxR w0 g r pv w) (hn : ∀ x ∈ rxNeeds.getD 25 [], Holds (tabK w0.heap.size w0 (rxKinds r g)) a w x) : Meets Tryz.prog (tabK w0.heap.size w0 (rxKinds r g)) o a w := by
  have e := op_of (show (rxOps[25]?).map (fun o => (o.op, o.dst)) = some (.call { callee := .value (.func 42), args := #[.tmp 43], argTypes := #[3] }, some 44) by kernel_rfl) ho
  exact k_rdec e.1 e.2 rfl (holds_val (hn 43 (of_decide_eq_true (by kernel_rfl))) rfl).2 (hR _ (by simp [rulInts]))
theorem rx_26 (hR : ∀ x ∈ rulInts r, 0 ≤ x ∧ x ≤ 10000) {o : Oper} (ho : rxOps[26]? = some o) (a : Act) (w : World) (hG : TxR w0 g r pv w) (hn : ∀ x ∈ rxNeeds.getD 26 [], Holds (tabK w0.heap.size w0 (rxKinds r g)) a w x) : Meets Tryz.prog (tabK w0.heap.size w0 (rxKinds r g)) o a w := by
  have e := op_of (show (rxOps[26]?).map (fun o => (o.op, o.dst)) = some (.fieldAddr 24 (.tmp 1) 7, some 45) by kernel_rfl) ho
  exact meets_field e.1 (holds_val (hn 1 (of_decide_eq_true (by kernel_rfl))) rfl).2 (fld_7 g w) (tab_o e.2 rfl rfl)
theorem rx_27 (hR : ∀ x ∈ rulInts r, 0 ≤ x ∧ x ≤ 10000) {o : Oper} (ho : rxOps[27]? = some o) (a : Act) (w : World) (hG : TxR w0 g r pv w) (hn : ∀ x ∈ rxNeeds.getD 27 [], Holds (tabK w0.heap.size w0 (rxKinds r g)) a w x) : Meets Tryz.prog (tabK w0.heap.size w0 (rxKinds r g)) o a w := by
  have e := op_of (show (rxOps[27]?).map (fun o => (o.op, o.dst)) = some (.load 3 (.tmp 45), some 46) by kernel_rfl) ho
  exact meets_load e.1 (holds_val (hn 45 (of_decide_eq_true (by kernel_rfl))) rfl).2 (loadAt_cell (by kernel_rfl) ((hG.lies.blk.cell 7).trans rfl)) (tab_o e.2 rfl rfl)
theorem rx_28 (hR : ∀ x ∈ rulInts r, 0 ≤ x ∧ x ≤ 10000) {o : Oper} (ho : rxOps[28]? = some o) (a : Act) (w : World) (hG : TxR w0 g r pv w) (hn : ∀ x ∈ rxNeeds.getD 28 [], Holds (tabK w0.heap.size w0 (rxKinds r g)) a w x) : Meets Tryz.prog (tabK w0.heap.size w0 (rxKinds r g)) o a w := by
  have e := op_of (show (rxOps[28]?).map (fun o => (o.op, o.dst)) = some (.call { callee := .value (.func 42), args := #[.tmp 46], argTypes := #[3] }, some 47) by kernel_rfl) ho
  exact k_rdec e.1 e.2 rfl (holds_val (hn 46 (of_decide_eq_true (by kernel_rfl))) rfl).2 (hR _ (by simp [rulInts]))
theorem rx_29 (hR : ∀ x ∈ rulInts r, 0 ≤ x ∧ x ≤ 10000) {o : Oper} (ho : rxOps[29]? = some o) (a : Act) (w : World) (hG : TxR w0 g r pv w) (hn : ∀ x ∈ rxNeeds.getD 29 [], Holds (tabK w0.heap.size w0 (rxKinds r g)) a w x) : Meets Tryz.prog (tabK w0.heap.size w0 (rxKinds r g)) o a w := by
  have e := op_of (show (rxOps[29]?).map (fun o => (o.op, o.dst)) = some (.buildSlice 59 2 #[(0, .tmp 44), (1, .tmp 47)], some 48) by kernel_rfl) ho
  exact k_strs2 e.1 e.2 rfl (holds_val (hn 44 (of_decide_eq_true (by kernel_rfl))) rfl).2 (holds_val (hn 47 (of_decide_eq_true (by kernel_rfl))) rfl).2 hG.size
theorem rx_30 (hR : ∀ x ∈ rulInts r, 0 ≤ x ∧ x ≤ 10000) {o : Oper} (ho : rxOps[30]? = some o) (a : Act) (w : World) (hG : TxR w0 g r pv w) (hn : ∀ x ∈ rxNeeds.getD 30 [], Holds (tabK w0.heap.size w0 (rxKinds r g)) a w x) : Meets Tryz.prog (tabK w0.heap.size w0 (rxKinds r g)) o a w := by
  have e := op_of (show (rxOps[30]?).map (fun o => (o.op, o.dst)) = some (.move (.tmp 5), some 49) by kernel_rfl) ho
  exact meets_move (.inl e.1) (tab_o e.2 rfl (by rw [(holds_val (hn 5 (of_decide_eq_true (by kernel_rfl))) rfl).2]; rfl))
theorem rx_31 (hR : ∀ x ∈ rulInts r, 0 ≤ x ∧ x ≤ 10000) {o : Oper} (ho : rxOps[31]? = some o) (a : Act) (w : World) (hG : TxR w0 g r pv w) (hn : ∀ x ∈ rxNeeds.getD 31 [], Holds (tabK w0.heap.size w0 (rxKinds r g)) a w x) : Meets Tryz.prog (tabK w0.heap.size w0 (rxKinds r g)) o a w := by
  have e := op_of (show (rxOps[31]?).map (fun o => (o.op, o.dst)) = some (.buildSlice 59 1 #[(0, .tmp 49)], some 50) by kernel_rfl) ho
  exact k_strs1 e.1 e.2 rfl (holds_val (hn 49 (of_decide_eq_true (by kernel_rfl))) rfl).2 hG.size
theorem rx_32 (hR : ∀ x ∈ rulInts r, 0 ≤ x ∧ x ≤ 10000) {o : Oper} (ho : rxOps[32]? = some o) (a : Act) (w : World) (hG : TxR w0 g r pv w) (hn : ∀ x ∈ rxNeeds.getD 32 [], Holds (tabK w0.heap.size w0 (rxKinds r g)) a w x) : Meets Tryz.prog (tabK w0.heap.size w0 (rxKinds r g)) o a w := by
  have e := op_of (show (rxOps[32]?).map (fun o => (o.op, o.dst)) = some (.fieldAddr 24 (.tmp 1) 9, some 51) by kernel_rfl) ho
  exact meets_field e.1 (holds_val (hn 1 (of_decide_eq_true (by kernel_rfl))) rfl).2 (fld_9 g w) (tab_o e.2 rfl rfl)
theorem rx_33 (hR : ∀ x ∈ rulInts r, 0 ≤ x ∧ x ≤ 10000) {o : Oper} (ho : rxOps[33]? = some o) (a : Act) (w : World) (hG : TxR w0 g r pv w) (hn : ∀ x ∈ rxNeeds.getD 33 [], Holds (tabK w0.heap.size w0 (rxKinds r g)) a w x) : Meets Tryz.prog (tabK w0.heap.size w0 (rxKinds r g)) o a w := by
  have e := op_of (show (rxOps[33]?).map (fun o => (o.op, o.dst)) = some (.load 3 (.tmp 51), some 52) by kernel_rfl) ho
  exact meets_load e.1 (holds_val (hn 51 (of_decide_eq_true (by kernel_rfl))) rfl).2 (loadAt_cell (by kernel_rfl) ((hG.lies.blk.cell 9).trans rfl)) (tab_o e.2 rfl rfl)
theorem rx_34 (hR : ∀ x ∈ rulInts r, 0 ≤ x ∧ x ≤ 10000) {o : Oper} (ho : rxOps[34]? = some o) (a : Act) (w : World) (hG : TxR w0 g r pv w) (hn : ∀ x ∈ rxNeeds.getD 34 [], Holds (tabK w0.heap.size w0 (rxKinds r g)) a w x) : Meets Tryz.prog (tabK w0.heap.size w0 (rxKinds r g)) o a w := by
  have e := op_of (show (rxOps[34]?).map (fun o => (o.op, o.dst)) = some (.call { callee := .value (.func 42), args := #[.tmp 52], argTypes := #[3] }, some 53) by kernel_rfl) ho
  exact k_rdec e.1 e.2 rfl (holds_val (hn 52 (of_decide_eq_true (by kernel_rfl))) rfl).2 (hR _ (by simp [rulInts]))
theorem rx_35 (hR : ∀ x ∈ rulInts r, 0 ≤ x ∧ x ≤ 10000) {o : Oper} (ho : rxOps[35]? = some o) (a : Act) (w : World) (hG : TxR w0 g r pv w) (hn : ∀ x ∈ rxNeeds.getD 35 [], Holds (tabK w0.heap.size w0 (rxKinds r g)) a w x) : Meets Tryz.prog (tabK w0.heap.size w0 (rxKinds r g)) o a w := by
  have e := op_of (show (rxOps[35]?).map (fun o => (o.op, o.dst)) = some (.buildSlice 59 1 #[(0, .tmp 53)], some 54) by kernel_rfl) ho
  exact k_strs1 e.1 e.2 rfl (holds_val (hn 53 (of_decide_eq_true (by kernel_rfl))) rfl).2 hG.size
theorem rx_36 (hR : ∀ x ∈ rulInts r, 0 ≤ x ∧ x ≤ 10000) {o : Oper} (ho : rxOps[36]? = some o) (a : Act) (w : World) (hG : TxR w0 g r pv w) (hn : ∀ x ∈ rxNeeds.getD 36 [], Holds (tabK w0.heap.size w0 (rxKinds r g)) a w x) : Meets Tryz.prog (tabK w0.heap.size w0 (rxKinds r g)) o a w := by
  have e := op_of (show (rxOps[36]?).map (fun o => (o.op, o.dst)) = some (.fieldAddr 24 (.tmp 1) 10, some 55) by kernel_rfl) ho
  exact meets_field e.1 (holds_val (hn 1 (of_decide_eq_true (by kernel_rfl))) rfl).2 (fld_10 g w) (tab_o e.2 rfl rfl)
theorem rx_37 (hR : ∀ x ∈ rulInts r, 0 ≤ x ∧ x ≤ 10000) {o : Oper} (ho : rxOps[37]? = some o) (a : Act) (w : World) (hG : TxR w0 g r pv w) (hn : ∀ x ∈ rxNeeds.getD 37 [], Holds (tabK w0.heap.size w0 (rxKinds r g)) a w x) : Meets Tryz.prog (tabK w0.heap.size w0 (rxKinds r g)) o a w := by
  have e := op_of (show (rxOps[37]?).map (fun o => (o.op, o.dst)) = some (.load 3 (.tmp 55), some 56) by kernel_rfl) ho
  exact meets_load e.1 (holds_val (hn 55 (of_decide_eq_true (by kernel_rfl))) rfl).2 (loadAt_cell (by kernel_rfl) ((hG.lies.blk.cell 10).trans rfl)) (tab_o e.2 rfl rfl)
theorem rx_38 (hR : ∀ x ∈ rulInts r, 0 ≤ x ∧ x ≤ 10000) {o : Oper} (ho : rxOps[38]? = some o) (a : Act) (w : World) (hG : TxR w0 g r pv w) (hn : ∀ x ∈ rxNeeds.getD 38 [], Holds (tabK w0.heap.size w0 (rxKinds r g)) a w x) : Meets Tryz.prog (tabK w0.heap.size w0 (rxKinds r g)) o a w := by
  have e := op_of (show (rxOps[38]?).map (fun o => (o.op, o.dst)) = some (.call { callee := .value (.func 42), args := #[.tmp 56], argTypes := #[3] }, some 57) by kernel_rfl) ho
  exact k_rdec e.1 e.2 rfl (holds_val (hn 56 (of_decide_eq_true (by kernel_rfl))) rfl).2 (hR _ (by simp [rulInts]))
theorem rx_39 (hR : ∀ x ∈ rulInts r, 0 ≤ x ∧ x ≤ 10000) {o : Oper} (ho : rxOps[39]? = some o) (a : Act) (w : World) (hG : TxR w0 g r pv w) (hn : ∀ x ∈ rxNeeds.getD 39 [], Holds (tabK w0.heap.size w0 (rxKinds r g)) a w x) : Meets Tryz.prog (tabK w0.heap.size w0 (rxKinds r g)) o a w := by
  have e := op_of (show (rxOps[39]?).map (fun o => (o.op, o.dst)) = some (.buildSlice 59 1 #[(0, .tmp 57)], some 58) by kernel_rfl) ho
  exact k_strs1 e.1 e.2 rfl (holds_val (hn 57 (of_decide_eq_true (by kernel_rfl))) rfl).2 hG.size
theorem rx_40 (hR : ∀ x ∈ rulInts r, 0 ≤ x ∧ x ≤ 10000) {o : Oper} (ho : rxOps[40]? = some o) (a : Act) (w : World) (hG : TxR w0 g r pv w) (hn : ∀ x ∈ rxNeeds.getD 40 [], Holds (tabK w0.heap.size w0 (rxKinds r g)) a w x) : Meets Tryz.prog (tabK w0.heap.size w0 (rxKinds r g)) o a w := by
  have e := op_of (show (rxOps[40]?).map (fun o => (o.op, o.dst)) = some (.fieldAddr 24 (.tmp 1) 11, some 59) by kernel_rfl) ho
  exact meets_field e.1 (holds_val (hn 1 (of_decide_eq_true (by kernel_rfl))) rfl).2 (fld_11 g w) (tab_o e.2 rfl rfl)
theorem rx_41 (hR : ∀ x ∈ rulInts r, 0 ≤ x ∧ x ≤ 10000) {o : Oper} (ho : rxOps[41]? = some o) (a : Act) (w : World) (hG : TxR w0 g r pv w) (hn : ∀ x ∈ rxNeeds.getD 41 [], Holds (tabK w0.heap.size w0 (rxKinds r g)) a w x) : Meets Tryz.prog (tabK w0.heap.size w0 (rxKinds r g)) o a w := by
  have e := op_of (show (rxOps[41]?).map (fun o => (o.op, o.dst)) = some (.load 3 (.tmp 59), some 60) by kernel_rfl) ho
  exact meets_load e.1 (holds_val (hn 59 (of_decide_eq_true (by kernel_rfl))) rfl).2 (loadAt_cell (by kernel_rfl) ((hG.lies.blk.cell 11).trans rfl)) (tab_o e.2 rfl rfl)
theorem rx_42 (hR : ∀ x ∈ rulInts r, 0 ≤ x ∧ x ≤ 10000) {o : Oper} (ho : rxOps[42]? = some o) (a : Act) (w : World) (hG : TxR w0 g r pv w) (hn : ∀ x ∈ rxNeeds.getD 42 [], Holds (tabK w0.heap.size w0 (rxKinds r g)) a w x) : Meets Tryz.prog (tabK w0.heap.size w0 (rxKinds r g)) o a w := by
  have e := op_of (show (rxOps[42]?).map (fun o => (o.op, o.dst)) = some (.call { callee := .value (.func 42), args := #[.tmp 60], argTypes := #[3] }, some 61) by kernel_rfl) ho
  exact k_rdec e.1 e.2 rfl (holds_val (hn 60 (of_decide_eq_true (by kernel_rfl))) rfl).2 (hR _ (by simp [rulInts]))
theorem rx_43 (hR : ∀ x ∈ rulInts r, 0 ≤ x ∧ x ≤ 10000) {o : Oper} (ho : rxOps[43]? = some o) (a : Act) (w : World) (hG : TxR w0 g r pv w) (hn : ∀ x ∈ rxNeeds.getD 43 [], Holds (tabK w0.heap.size w0 (rxKinds r g)) a w x) : Meets Tryz.prog (tabK w0.heap.size w0 (rxKinds r g)) o a w := by
  have e := op_of (show (rxOps[43]?).map (fun o => (o.op, o.dst)) = some (.buildSlice 59 1 #[(0, .tmp 61)], some 62) by kernel_rfl) ho
  exact k_strs1 e.1 e.2 rfl (holds_val (hn 61 (of_decide_eq_true (by kernel_rfl))) rfl).2 hG.size
theorem rx_44 (hR : ∀ x ∈ rulInts r, 0 ≤ x ∧ x ≤ 10000) {o : Oper} (ho : rxOps[44]? = some o) (a : Act) (w : World) (hG : TxR w0 g r pv w) (hn : ∀ x ∈ rxNeeds.getD 44 [], Holds (tabK w0.heap.size w0 (rxKinds r g)) a w x) : Meets Tryz.prog (tabK w0.heap.size w0 (rxKinds r g)) o a w := by
  have e := op_of (show (rxOps[44]?).map (fun o => (o.op, o.dst)) = some (.fieldAddr 24 (.tmp 1) 12, some 63) by kernel_rfl) ho
  exact meets_field e.1 (holds_val (hn 1 (of_decide_eq_true (by kernel_rfl))) rfl).2 (fld_12 g w) (tab_o e.2 rfl rfl)
theorem rx_45 (hR : ∀ x ∈ rulInts r, 0 ≤ x ∧ x ≤ 10000) {o : Oper} (ho : rxOps[45]? = some o) (a : Act) (w : World) (hG : TxR w0 g r pv w) (hn : ∀ x ∈ rxNeeds.getD 45 [], Holds (tabK w0.heap.size w0 (rxKinds r g)) a w x) : Meets Tryz.prog (tabK w0.heap.size w0 (rxKinds r g)) o a w := by
  have e := op_of (show (rxOps[45]?).map (fun o => (o.op, o.dst)) = some (.load 3 (.tmp 63), some 64) by kernel_rfl) ho
  exact meets_load e.1 (holds_val (hn 63 (of_decide_eq_true (by kernel_rfl))) rfl).2 (loadAt_cell (by kernel_rfl) ((hG.lies.blk.cell 12).trans rfl)) (tab_o e.2 rfl rfl)
theorem rx_46 (hR : ∀ x ∈ rulInts r, 0 ≤ x ∧ x ≤ 10000) {o : Oper} (ho : rxOps[46]? = some o) (a : Act) (w : World) (hG : TxR w0 g r pv w) (hn : ∀ x ∈ rxNeeds.getD 46 [], Holds (tabK w0.heap.size w0 (rxKinds r g)) a w x) : Meets Tryz.prog (tabK w0.heap.size w0 (rxKinds r g)) o a w := by
  have e := op_of (show (rxOps[46]?).map (fun o => (o.op, o.dst)) = some (.call { callee := .value (.func 42), args := #[.tmp 64], argTypes := #[3] }, some 65) by kernel_rfl) ho
  exact k_rdec e.1 e.2 rfl (holds_val (hn 64 (of_decide_eq_true (by kernel_rfl))) rfl).2 (hR _ (by simp [rulInts]))
theorem rx_47 (hR : ∀ x ∈ rulInts r, 0 ≤ x ∧ x ≤ 10000) {o : Oper} (ho : rxOps[47]? = some o) (a : Act) (w : World) (hG : TxR w0 g r pv w) (hn : ∀ x ∈ rxNeeds.getD 47 [], Holds (tabK w0.heap.size w0 (rxKinds r g)) a w x) : Meets Tryz.prog (tabK w0.heap.size w0 (rxKinds r g)) o a w := by
  have e := op_of (show (rxOps[47]?).map (fun o => (o.op, o.dst)) = some (.buildSlice 59 1 #[(0, .tmp 65)], some 66) by kernel_rfl) ho
  exact k_strs1 e.1 e.2 rfl (holds_val (hn 65 (of_decide_eq_true (by kernel_rfl))) rfl).2 hG.size
theorem rx_48 (hR : ∀ x ∈ rulInts r, 0 ≤ x ∧ x ≤ 10000) {o : Oper} (ho : rxOps[48]? = some o) (a : Act) (w : World) (hG : TxR w0 g r pv w) (hn : ∀ x ∈ rxNeeds.getD 48 [], Holds (tabK w0.heap.size w0 (rxKinds r g)) a w x) : Meets Tryz.prog (tabK w0.heap.size w0 (rxKinds r g)) o a w := by
  have e := op_of (show (rxOps[48]?).map (fun o => (o.op, o.dst)) = some (.buildSlice 60 12 #[(0, .tmp 21), (1, .tmp 25), (2, .tmp 29), (3, .tmp 33), (4, .tmp 37), (5, .tmp 41), (6, .tmp 48), (7, .tmp 50), (8, .tmp 54), (9, .tmp 58), (10, .tmp 62), (11, .tmp 66)], some 67) by kernel_rfl) ho
  obtain ⟨v0, a0, b0⟩ := (holds_strs (hn 21 (of_decide_eq_true (by kernel_rfl))) rfl)
  obtain ⟨v1, a1, b1⟩ := (holds_strs (hn 25 (of_decide_eq_true (by kernel_rfl))) rfl)
  obtain ⟨v2, a2, b2⟩ := (holds_strs (hn 29 (of_decide_eq_true (by kernel_rfl))) rfl)
  obtain ⟨v3, a3, b3⟩ := (holds_strs (hn 33 (of_decide_eq_true (by kernel_rfl))) rfl)
  obtain ⟨v4, a4, b4⟩ := (holds_strs (hn 37 (of_decide_eq_true (by kernel_rfl))) rfl)
  obtain ⟨v5, a5, b5⟩ := (holds_strs (hn 41 (of_decide_eq_true (by kernel_rfl))) rfl)
  obtain ⟨v6, a6, b6⟩ := (holds_strs (hn 48 (of_decide_eq_true (by kernel_rfl))) rfl)
  obtain ⟨v7, a7, b7⟩ := (holds_strs (hn 50 (of_decide_eq_true (by kernel_rfl))) rfl)
  obtain ⟨v8, a8, b8⟩ := (holds_strs (hn 54 (of_decide_eq_true (by kernel_rfl))) rfl)
  obtain ⟨v9, a9, b9⟩ := (holds_strs (hn 58 (of_decide_eq_true (by kernel_rfl))) rfl)
  obtain ⟨v10, a10, b10⟩ := (holds_strs (hn 62 (of_decide_eq_true (by kernel_rfl))) rfl)
  obtain ⟨v11, a11, b11⟩ := (holds_strs (hn 66 (of_decide_eq_true (by kernel_rfl))) rfl)
  exact k_strss e.1 e.2 rfl hG.size a0 b0 a1 b1 a2 b2 a3 b3 a4 b4 a5 b5 a6 b6 a7 b7 a8 b8 a9 b9 a10 b10 a11 b11
theorem rx_49 (hR : ∀ x ∈ rulInts r, 0 ≤ x ∧ x ≤ 10000) {o : Oper} (ho : rxOps[49]? = some o) (a : Act) (w : World) (hG : TxR w0 g r pv w) (hn : ∀ x ∈ rxNeeds.getD 49 [], Holds (tabK w0.heap.size w0 (rxKinds r g)) a w x) : Meets Tryz.prog (tabK w0.heap.size w0 (rxKinds r g)) o a w := by
  have e := op_of (show (rxOps[49]?).map (fun o => (o.op, o.dst)) = some (.assign (.tmp 67), some 6) by kernel_rfl) ho
  obtain ⟨v, h1, h2⟩ := (holds_strss (hn 67 (of_decide_eq_true (by kernel_rfl))) rfl)
  exact meets_move (.inr e.1) (tab_o e.2 rfl (by rw [eval_tmp h1]; exact h2))
theorem rx_free (hR : ∀ x ∈ rulInts r, 0 ≤ x ∧ x ≤ 10000) : FreeR Tryz.prog rxOps (tabK w0.heap.size w0 (rxKinds r g)) (TxR w0 g r pv) (fun i => rxNeeds.getD i []) [1, 5] 111 where
  back := back_of (by kernel_rfl)
  dst := dst_of (by kernel_rfl)
  need := need_of (by kernel_rfl)
  sV := tab_below
  sG := fun w w' h hb => h.below hb
  step := fun i o ho a w hG hn => by
    have hlt : i < 50 := (Array.getElem?_eq_some_iff.1 ho).1
    match i, hlt with
    | 0, _ => exact rx_0 hR ho a w hG hn
    | 1, _ => exact rx_1 hR ho a w hG hn
    | 2, _ => exact rx_2 hR ho a w hG hn
    | 3, _ => exact rx_3 hR ho a w hG hn
    | 4, _ => exact rx_4 hR ho a w hG hn
    | 5, _ => exact rx_5 hR ho a w hG hn
    | 6, _ => exact rx_6 hR ho a w hG hn
    | 7, _ => exact rx_7 hR ho a w hG hn
    | 8, _ => exact rx_8 hR ho a w hG hn
    | 9, _ => exact rx_9 hR ho a w hG hn
    | 10, _ => exact rx_10 hR ho a w hG hn
    | 11, _ => exact rx_11 hR ho a w hG hn
    | 12, _ => exact rx_12 hR ho a w hG hn
    | 13, _ => exact rx_13 hR ho a w hG hn
    | 14, _ => exact rx_14 hR ho a w hG hn
    | 15, _ => exact rx_15 hR ho a w hG hn
    | 16, _ => exact rx_16 hR ho a w hG hn
    | 17, _ => exact rx_17 hR ho a w hG hn
    | 18, _ => exact rx_18 hR ho a w hG hn
    | 19, _ => exact rx_19 hR ho a w hG hn
    | 20, _ => exact rx_20 hR ho a w hG hn
    | 21, _ => exact rx_21 hR ho a w hG hn
    | 22, _ => exact rx_22 hR ho a w hG hn
    | 23, _ => exact rx_23 hR ho a w hG hn
    | 24, _ => exact rx_24 hR ho a w hG hn
    | 25, _ => exact rx_25 hR ho a w hG hn
    | 26, _ => exact rx_26 hR ho a w hG hn
    | 27, _ => exact rx_27 hR ho a w hG hn
    | 28, _ => exact rx_28 hR ho a w hG hn
    | 29, _ => exact rx_29 hR ho a w hG hn
    | 30, _ => exact rx_30 hR ho a w hG hn
    | 31, _ => exact rx_31 hR ho a w hG hn
    | 32, _ => exact rx_32 hR ho a w hG hn
    | 33, _ => exact rx_33 hR ho a w hG hn
    | 34, _ => exact rx_34 hR ho a w hG hn
    | 35, _ => exact rx_35 hR ho a w hG hn
    | 36, _ => exact rx_36 hR ho a w hG hn
    | 37, _ => exact rx_37 hR ho a w hG hn
    | 38, _ => exact rx_38 hR ho a w hG hn
    | 39, _ => exact rx_39 hR ho a w hG hn
    | 40, _ => exact rx_40 hR ho a w hG hn
    | 41, _ => exact rx_41 hR ho a w hG hn
    | 42, _ => exact rx_42 hR ho a w hG hn
    | 43, _ => exact rx_43 hR ho a w hG hn
    | 44, _ => exact rx_44 hR ho a w hG hn
    | 45, _ => exact rx_45 hR ho a w hG hn
    | 46, _ => exact rx_46 hR ho a w hG hn
    | 47, _ => exact rx_47 hR ho a w hG hn
    | 48, _ => exact rx_48 hR ho a w hG hn
    | 49, _ => exact rx_49 hR ho a w hG hn
end
end Go.Proofs.YtnacklbaphobbaaGreatDoor
