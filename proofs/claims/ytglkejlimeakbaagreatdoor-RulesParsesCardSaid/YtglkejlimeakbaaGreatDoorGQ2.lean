/- Several texts of this family in one: U12 U10 U14 U16 F0 U4a U4b U4c U4 U8 C5 U18. -/
import Derived.Test.YtglkejlimeakbaaGreatDoorGQ1
import Derived.Test.YtglkejlimeakbaaGreatDoorGQ0
import Derived.Laws.StructEq
import Derived.Deep.RegionHeld3
import Derived.Laws.EntriesVeiled
set_option linter.unusedSimpArgs false
set_option linter.unusedVariables false
namespace Go.Proofs.YtglkejlimeakbaaGreatDoor
open Go.RowKit

def rulInts (r : Rul) : List Int := [r.side, r.inns, r.overs, r.balls, r.quota, r.wide, r.noball, r.newball, r.follow, r.reviews, r.outside]
theorem rulInts_ok {r : Rul} (h : checkR r = 0) : ∀ x ∈ rulInts r, 0 ≤ x ∧ x ≤ 10000 := by
  obtain ⟨_, hr, _, _⟩ := checkR_ok h
  obtain ⟨⟨a1, a2⟩, ⟨b1, b2⟩, ⟨d1, d2⟩, ⟨e1, e2⟩, ⟨f1, f2⟩, ⟨g1, g2⟩, ⟨i1, i2⟩, ⟨j1, j2⟩, ⟨k1, k2⟩, ⟨l1, l2⟩, ⟨m1, m2⟩⟩ := (inRangeS_iff r).1 hr
  intro x hx
  unfold rulInts at hx
  simp only [List.mem_cons, List.not_mem_nil, or_false] at hx
  rcases hx with rfl | rfl | rfl | rfl | rfl | rfl | rfl | rfl | rfl | rfl | rfl <;> omega
/-- What such a region needs of its world. -/
structure TxR (w0 : World) (g : Nat) (r : Rul) (pv : Value) (w : World) : Prop where
  lies : RulAt w g r pv
  bel : Below w0.heap.size w0 w
theorem TxR.size {w0 w : World} {g : Nat} {r : Rul} {pv : Value} (h : TxR w0 g r pv w) : w0.heap.size ≤ w.heap.size := h.bel.size
theorem TxR.below {w0 w w' : World} {g : Nat} {r : Rul} {pv : Value} (h : TxR w0 g r pv w) (hb : Below w.heap.size w w') : TxR w0 g r pv w' := ⟨h.lies.below hb, h.bel.trans (hb.mono h.bel.size)⟩
structure TxG (w0 : World) (g : Nat) (r : Rul) (pv : Value) (w : World) : Prop extends TxR w0 g r pv w where
  glob : GlobN w
theorem TxG.below {w0 w w' : World} {g : Nat} {r : Rul} {pv : Value} (h : TxG w0 g r pv w) (hb : Below w.heap.size w w') : TxG w0 g r pv w' := ⟨h.toTxR.below hb, h.glob.below hb⟩
theorem TxG.size {w0 w : World} {g : Nat} {r : Rul} {pv : Value} (h : TxG w0 g r pv w) : w0.heap.size ≤ w.heap.size := h.bel.size
theorem fld_0 (g : Nat) (w : World) : (Instr.fieldAt 25 (.pointer (some ⟨g, 0, none⟩)) 0).run Tryz.prog w = .ok (.pointer (some ⟨g, 0, none⟩)) w := by kernel_rfl
theorem fld_1 (g : Nat) (w : World) : (Instr.fieldAt 25 (.pointer (some ⟨g, 0, none⟩)) 1).run Tryz.prog w = .ok (.pointer (some ⟨g, 1, none⟩)) w := by kernel_rfl
theorem fld_2 (g : Nat) (w : World) : (Instr.fieldAt 25 (.pointer (some ⟨g, 0, none⟩)) 2).run Tryz.prog w = .ok (.pointer (some ⟨g, 2, none⟩)) w := by kernel_rfl
theorem fld_3 (g : Nat) (w : World) : (Instr.fieldAt 25 (.pointer (some ⟨g, 0, none⟩)) 3).run Tryz.prog w = .ok (.pointer (some ⟨g, 3, none⟩)) w := by kernel_rfl
theorem fld_4 (g : Nat) (w : World) : (Instr.fieldAt 25 (.pointer (some ⟨g, 0, none⟩)) 4).run Tryz.prog w = .ok (.pointer (some ⟨g, 4, none⟩)) w := by kernel_rfl
theorem fld_5 (g : Nat) (w : World) : (Instr.fieldAt 25 (.pointer (some ⟨g, 0, none⟩)) 5).run Tryz.prog w = .ok (.pointer (some ⟨g, 5, none⟩)) w := by kernel_rfl
theorem fld_6 (g : Nat) (w : World) : (Instr.fieldAt 25 (.pointer (some ⟨g, 0, none⟩)) 6).run Tryz.prog w = .ok (.pointer (some ⟨g, 6, none⟩)) w := by kernel_rfl
theorem fld_7 (g : Nat) (w : World) : (Instr.fieldAt 25 (.pointer (some ⟨g, 0, none⟩)) 7).run Tryz.prog w = .ok (.pointer (some ⟨g, 7, none⟩)) w := by kernel_rfl
theorem fld_9 (g : Nat) (w : World) : (Instr.fieldAt 25 (.pointer (some ⟨g, 0, none⟩)) 9).run Tryz.prog w = .ok (.pointer (some ⟨g, 9, none⟩)) w := by kernel_rfl
theorem fld_10 (g : Nat) (w : World) : (Instr.fieldAt 25 (.pointer (some ⟨g, 0, none⟩)) 10).run Tryz.prog w = .ok (.pointer (some ⟨g, 10, none⟩)) w := by kernel_rfl
theorem fld_11 (g : Nat) (w : World) : (Instr.fieldAt 25 (.pointer (some ⟨g, 0, none⟩)) 11).run Tryz.prog w = .ok (.pointer (some ⟨g, 11, none⟩)) w := by kernel_rfl
theorem fld_12 (g : Nat) (w : World) : (Instr.fieldAt 25 (.pointer (some ⟨g, 0, none⟩)) 12).run Tryz.prog w = .ok (.pointer (some ⟨g, 12, none⟩)) w := by kernel_rfl
theorem bs_2 (w : World) (u0 u1 : ByteArray) : (Instr.buildSlice 64 2 #[(0, .string u0), (1, .string u1)]).run Tryz.prog w = .ok (.slice (some ⟨w.heap.size, 0, none⟩) 2 2) (w.alloc (.cells #[.string u0, .string u1] 9)) := by kernel_rfl
theorem k_strs2 {B : Nat} {w0 w : World} {K : List (Nat × Kd)} {a : Act} {o : Oper} {d : Nat} {x0 x1 : Operand} {p0 p1 : List UInt8} (ho : o.op = .buildSlice 64 2 #[(0, x0), (1, x1)]) (hd : o.dst = some d) (hk : K.lookup d = some (.strs [p0, p1])) (h0 : a.eval x0 = .string (S p0)) (h1 : a.eval x1 = .string (S p1)) (hB : B ≤ w.heap.size) : Meets Tryz.prog (tabK B w0 K) o a w := by
  refine meets_build (e := 9) ho #[.string (S p0), .string (S p1)] ?_ (tab_o hd hk (strs_lit w B hB [p0, p1] 9 (by simp [maxLen])))
  simp only [List.map_toArray, List.map_cons, List.map_nil, h0, h1]
  exact bs_2 w (S p0) (S p1)
theorem bs_3 (w : World) (u0 u1 u2 : ByteArray) : (Instr.buildSlice 64 3 #[(0, .string u0), (1, .string u1), (2, .string u2)]).run Tryz.prog w = .ok (.slice (some ⟨w.heap.size, 0, none⟩) 3 3) (w.alloc (.cells #[.string u0, .string u1, .string u2] 9)) := by kernel_rfl
theorem k_strs3 {B : Nat} {w0 w : World} {K : List (Nat × Kd)} {a : Act} {o : Oper} {d : Nat} {x0 x1 x2 : Operand} {p0 p1 p2 : List UInt8} (ho : o.op = .buildSlice 64 3 #[(0, x0), (1, x1), (2, x2)]) (hd : o.dst = some d) (hk : K.lookup d = some (.strs [p0, p1, p2])) (h0 : a.eval x0 = .string (S p0)) (h1 : a.eval x1 = .string (S p1)) (h2 : a.eval x2 = .string (S p2)) (hB : B ≤ w.heap.size) : Meets Tryz.prog (tabK B w0 K) o a w := by
  refine meets_build (e := 9) ho #[.string (S p0), .string (S p1), .string (S p2)] ?_ (tab_o hd hk (strs_lit w B hB [p0, p1, p2] 9 (by simp [maxLen])))
  simp only [List.map_toArray, List.map_cons, List.map_nil, h0, h1, h2]
  exact bs_3 w (S p0) (S p1) (S p2)
theorem text1_contract (n : Int) (w : World) (hg : GlobN w) (h0 : 0 ≤ n) (h1 : n ≤ 10000) : Calls Tryz.prog 50 #[.int .i64 n] w fun e w' => e = .returned (.string (S (decW n))) ∧ Below w.heap.size w w' := by
  have K := Lib.hid (text_Decimal n w hg (by omega) (by omega))
  clear hg
  go_enter Tryz.func50, Tryz.ntmps50
  go_wp2_with (go_at_call 45; refine K.out.mono ?_; rintro e w2 ⟨rfl, hb⟩)
  go_ret
  exact ⟨rfl, hb⟩
theorem k_dec {B : Nat} {w0 w : World} {K : List (Nat × Kd)} {a : Act} {o : Oper} {d : Nat} {f x : Operand} {n : Int} {at_ : Array TypeId} (ho : o.op = .call { callee := .value f, args := #[x], argTypes := at_ }) (hd : o.dst = some d) (hk : K.lookup d = some (.val (.string (S (decW n))))) (hf : a.eval f = .func (.func 50) #[] #[]) (hx : a.eval x = .int .i64 n) (hg : GlobN w) (hn : 0 ≤ n ∧ n ≤ 10000) : Meets Tryz.prog (tabK B w0 K) o a w := by
  refine meets_call (f := 50) (args := #[.int .i64 n]) ho rfl hf (by simp [hx]) Tryz.func50 (by kernel_rfl) (by kernel_rfl) fun d' h' => ?_
  refine (text1_contract n w hg hn.1 hn.2).mono ?_
  rintro e w' ⟨rfl, h2⟩
  exact ⟨_, rfl, h2, tab_o (w := w') hd hk rfl d' h'⟩
theorem k_line {B : Nat} {w0 w : World} {K : List (Nat × Kd)} {a : Act} {o : Oper} {d : Nat} {x : Operand} {v : Value} {l : List (List UInt8)} {at_ : Array TypeId} (ho : o.op = .call { callee := .value (.func 51), args := #[x], argTypes := at_ }) (hd : o.dst = some d) (hk : K.lookup d = some (.line l)) (hx : a.eval x = v) (hv : Sl 1 elStr w (Fr B w) v l) (hl : l.length ≤ 1000) (hB : B ≤ w.heap.size) : Meets Tryz.prog (tabK B w0 K) o a w := by
  refine meets_call (f := 51) (args := #[v]) ho rfl rfl (by simp [hx]) Tryz.func51 (by kernel_rfl) (by kernel_rfl) fun d' h' => ?_
  refine (rul_line l v _ w hv (fun b h => h.2) hl).mono ?_
  rintro e w' ⟨A, n, c, rfl, h1, h2⟩
  exact ⟨_, rfl, h2, tab_o (w := w') hd hk ⟨A, n, c, rfl, h1.keep elFld_good (Same.refl _ _) fun b h => ⟨Nat.le_trans hB h.1, h.2⟩⟩ d' h'⟩
theorem bs_rows (w : World) (A0 A1 A2 A3 A4 A5 A6 A7 A8 A9 A10 A11 : Option Addr) (n0 c0 n1 c1 n2 c2 n3 c3 n4 c4 n5 c5 n6 c6 n7 c7 n8 c8 n9 c9 n10 c10 n11 c11 : Nat) : (Instr.buildSlice 51 12 #[(0, .agg #[.int .i64 0, .slice A0 n0 c0]), (1, .agg #[.int .i64 0, .slice A1 n1 c1]), (2, .agg #[.int .i64 0, .slice A2 n2 c2]), (3, .agg #[.int .i64 0, .slice A3 n3 c3]), (4, .agg #[.int .i64 0, .slice A4 n4 c4]), (5, .agg #[.int .i64 0, .slice A5 n5 c5]), (6, .agg #[.int .i64 0, .slice A6 n6 c6]), (7, .agg #[.int .i64 0, .slice A7 n7 c7]), (8, .agg #[.int .i64 0, .slice A8 n8 c8]), (9, .agg #[.int .i64 0, .slice A9 n9 c9]), (10, .agg #[.int .i64 0, .slice A10 n10 c10]), (11, .agg #[.int .i64 0, .slice A11 n11 c11])]).run Tryz.prog w = .ok (.slice (some ⟨w.heap.size, 0, none⟩) 12 12) (w.alloc (.cells #[.int .i64 0, .slice A0 n0 c0, .int .i64 0, .slice A1 n1 c1, .int .i64 0, .slice A2 n2 c2, .int .i64 0, .slice A3 n3 c3, .int .i64 0, .slice A4 n4 c4, .int .i64 0, .slice A5 n5 c5, .int .i64 0, .slice A6 n6 c6, .int .i64 0, .slice A7 n7 c7, .int .i64 0, .slice A8 n8 c8, .int .i64 0, .slice A9 n9 c9, .int .i64 0, .slice A10 n10 c10, .int .i64 0, .slice A11 n11 c11] 56)) := by kernel_rfl
theorem k_rows {w0 w : World} {K : List (Nat × Kd)} {a : Act} {o : Oper} {d : Nat} {r : Rul} {x0 x1 x2 x3 x4 x5 x6 x7 x8 x9 x10 x11 : Operand} {A0 A1 A2 A3 A4 A5 A6 A7 A8 A9 A10 A11 : Option Addr} {n0 c0 n1 c1 n2 c2 n3 c3 n4 c4 n5 c5 n6 c6 n7 c7 n8 c8 n9 c9 n10 c10 n11 c11 : Nat} (ho : o.op = .buildSlice 51 12 #[(0, x0), (1, x1), (2, x2), (3, x3), (4, x4), (5, x5), (6, x6), (7, x7), (8, x8), (9, x9), (10, x10), (11, x11)]) (hd : o.dst = some d) (hk : K.lookup d = some (.rows (headLines r))) (hB : w0.heap.size ≤ w.heap.size) (hb : Below w0.heap.size w0 w)
(h0 : a.eval x0 = .agg #[.int .i64 0, .slice A0 n0 c0]) (s0 : Sl 3 elFld w (Fr w0.heap.size w) (.slice A0 n0 c0) ([kRULES, r.name].map wordF)) (h1 : a.eval x1 = .agg #[.int .i64 0, .slice A1 n1 c1]) (s1 : Sl 3 elFld w (Fr w0.heap.size w) (.slice A1 n1 c1) ([kSIDE, decW r.side].map wordF)) (h2 : a.eval x2 = .agg #[.int .i64 0, .slice A2 n2 c2]) (s2 : Sl 3 elFld w (Fr w0.heap.size w) (.slice A2 n2 c2) ([kINNINGS, decW r.inns].map wordF)) (h3 : a.eval x3 = .agg #[.int .i64 0, .slice A3 n3 c3]) (s3 : Sl 3 elFld w (Fr w0.heap.size w) (.slice A3 n3 c3) ([kOVERS, decW r.overs].map wordF)) (h4 : a.eval x4 = .agg #[.int .i64 0, .slice A4 n4 c4]) (s4 : Sl 3 elFld w (Fr w0.heap.size w) (.slice A4 n4 c4) ([kBALLS, decW r.balls].map wordF)) (h5 : a.eval x5 = .agg #[.int .i64 0, .slice A5 n5 c5]) (s5 : Sl 3 elFld w (Fr w0.heap.size w) (.slice A5 n5 c5) ([kQUOTA, decW r.quota].map wordF)) (h6 : a.eval x6 = .agg #[.int .i64 0, .slice A6 n6 c6]) (s6 : Sl 3 elFld w (Fr w0.heap.size w) (.slice A6 n6 c6) ([kRUNS, decW r.wide, decW r.noball].map wordF)) (h7 : a.eval x7 = .agg #[.int .i64 0, .slice A7 n7 c7]) (s7 : Sl 3 elFld w (Fr w0.heap.size w) (.slice A7 n7 c7) ([kFREEHIT, freeW r.free].map wordF)) (h8 : a.eval x8 = .agg #[.int .i64 0, .slice A8 n8 c8]) (s8 : Sl 3 elFld w (Fr w0.heap.size w) (.slice A8 n8 c8) ([kNEWBALL, decW r.newball].map wordF)) (h9 : a.eval x9 = .agg #[.int .i64 0, .slice A9 n9 c9]) (s9 : Sl 3 elFld w (Fr w0.heap.size w) (.slice A9 n9 c9) ([kFOLLOWON, decW r.follow].map wordF)) (h10 : a.eval x10 = .agg #[.int .i64 0, .slice A10 n10 c10]) (s10 : Sl 3 elFld w (Fr w0.heap.size w) (.slice A10 n10 c10) ([kREVIEWS, decW r.reviews].map wordF)) (h11 : a.eval x11 = .agg #[.int .i64 0, .slice A11 n11 c11]) (s11 : Sl 3 elFld w (Fr w0.heap.size w) (.slice A11 n11 c11) ([kOUTSIDE, decW r.outside].map wordF)) : Meets Tryz.prog (tabK w0.heap.size w0 K) o a w := by
  refine meets_build (e := 56) ho #[.int .i64 0, .slice A0 n0 c0, .int .i64 0, .slice A1 n1 c1, .int .i64 0, .slice A2 n2 c2, .int .i64 0, .slice A3 n3 c3, .int .i64 0, .slice A4 n4 c4, .int .i64 0, .slice A5 n5 c5, .int .i64 0, .slice A6 n6 c6, .int .i64 0, .slice A7 n7 c7, .int .i64 0, .slice A8 n8 c8, .int .i64 0, .slice A9 n9 c9, .int .i64 0, .slice A10 n10 c10, .int .i64 0, .slice A11 n11 c11] ?_ (tab_o hd hk (rows_lit w w0 w0.heap.size hB hb (headLines r) [[.int .i64 0, .slice A0 n0 c0], [.int .i64 0, .slice A1 n1 c1], [.int .i64 0, .slice A2 n2 c2], [.int .i64 0, .slice A3 n3 c3], [.int .i64 0, .slice A4 n4 c4], [.int .i64 0, .slice A5 n5 c5], [.int .i64 0, .slice A6 n6 c6], [.int .i64 0, .slice A7 n7 c7], [.int .i64 0, .slice A8 n8 c8], [.int .i64 0, .slice A9 n9 c9], [.int .i64 0, .slice A10 n10 c10], [.int .i64 0, .slice A11 n11 c11]] rfl (by simp) (by unfold headLines; simp [maxLen]) fun i x cs h1 h2 => ?_))
  · simp only [List.map_toArray, List.map_cons, List.map_nil, h0, h1, h2, h3, h4, h5, h6, h7, h8, h9, h10, h11]
    exact bs_rows w A0 A1 A2 A3 A4 A5 A6 A7 A8 A9 A10 A11 n0 c0 n1 c1 n2 c2 n3 c3 n4 c4 n5 c5 n6 c6 n7 c7 n8 c8 n9 c9 n10 c10 n11 c11
  · have hlt : i < 12 := (List.getElem?_eq_some_iff.1 h2).1
    unfold headLines at h1
    match i, hlt with
    | 0, _ => simp at h1 h2; subst h1; subst h2; exact ⟨_, rfl, s0⟩
    | 1, _ => simp at h1 h2; subst h1; subst h2; exact ⟨_, rfl, s1⟩
    | 2, _ => simp at h1 h2; subst h1; subst h2; exact ⟨_, rfl, s2⟩
    | 3, _ => simp at h1 h2; subst h1; subst h2; exact ⟨_, rfl, s3⟩
    | 4, _ => simp at h1 h2; subst h1; subst h2; exact ⟨_, rfl, s4⟩
    | 5, _ => simp at h1 h2; subst h1; subst h2; exact ⟨_, rfl, s5⟩
    | 6, _ => simp at h1 h2; subst h1; subst h2; exact ⟨_, rfl, s6⟩
    | 7, _ => simp at h1 h2; subst h1; subst h2; exact ⟨_, rfl, s7⟩
    | 8, _ => simp at h1 h2; subst h1; subst h2; exact ⟨_, rfl, s8⟩
    | 9, _ => simp at h1 h2; subst h1; subst h2; exact ⟨_, rfl, s9⟩
    | 10, _ => simp at h1 h2; subst h1; subst h2; exact ⟨_, rfl, s10⟩
    | 11, _ => simp at h1 h2; subst h1; subst h2; exact ⟨_, rfl, s11⟩
noncomputable def txOps : Array Oper := (Tryz.f19.body.bind (findR 8)).getD #[]
def txKinds (r : Rul) (g : Nat) : List (Nat × Kd) := [(1, .val (.pointer (some ⟨g, 0, none⟩))), (5, .val (.func (.func 50) #[] #[])), (6, .val (.string (S (freeW r.free)))), (17, .val (.pointer (some ⟨g, 0, none⟩))), (18, .val (.string (S r.name))), (19, .strs [kRULES, r.name]), (20, .line [kRULES, r.name]), (21, .val (.func (.func 50) #[] #[])), (22, .val (.pointer (some ⟨g, 1, none⟩))), (23, .val (.int .i64 r.side)), (24, .val (.string (S (decW r.side)))), (25, .strs [kSIDE, (decW r.side)]), (26, .line [kSIDE, (decW r.side)]), (27, .val (.func (.func 50) #[] #[])), (28, .val (.pointer (some ⟨g, 2, none⟩))), (29, .val (.int .i64 r.inns)), (30, .val (.string (S (decW r.inns)))), (31, .strs [kINNINGS, (decW r.inns)]), (32, .line [kINNINGS, (decW r.inns)]), (33, .val (.func (.func 50) #[] #[])), (34, .val (.pointer (some ⟨g, 3, none⟩))), (35, .val (.int .i64 r.overs)), (36, .val (.string (S (decW r.overs)))), (37, .strs [kOVERS, (decW r.overs)]), (38, .line [kOVERS, (decW r.overs)]), (39, .val (.func (.func 50) #[] #[])), (40, .val (.pointer (some ⟨g, 4, none⟩))), (41, .val (.int .i64 r.balls)), (42, .val (.string (S (decW r.balls)))), (43, .strs [kBALLS, (decW r.balls)]), (44, .line [kBALLS, (decW r.balls)]), (45, .val (.func (.func 50) #[] #[])), (46, .val (.pointer (some ⟨g, 5, none⟩))), (47, .val (.int .i64 r.quota)), (48, .val (.string (S (decW r.quota)))), (49, .strs [kQUOTA, (decW r.quota)]), (50, .line [kQUOTA, (decW r.quota)]), (51, .val (.func (.func 50) #[] #[])), (52, .val (.pointer (some ⟨g, 6, none⟩))), (53, .val (.int .i64 r.wide)), (54, .val (.string (S (decW r.wide)))), (55, .val (.func (.func 50) #[] #[])), (56, .val (.pointer (some ⟨g, 7, none⟩))), (57, .val (.int .i64 r.noball)), (58, .val (.string (S (decW r.noball)))), (59, .strs [kRUNS, (decW r.wide), (decW r.noball)]), (60, .line [kRUNS, (decW r.wide), (decW r.noball)]), (61, .val (.string (S (freeW r.free)))), (62, .strs [kFREEHIT, (freeW r.free)]), (63, .line [kFREEHIT, (freeW r.free)]), (64, .val (.func (.func 50) #[] #[])), (65, .val (.pointer (some ⟨g, 9, none⟩))), (66, .val (.int .i64 r.newball)), (67, .val (.string (S (decW r.newball)))), (68, .strs [kNEWBALL, (decW r.newball)]), (69, .line [kNEWBALL, (decW r.newball)]), (70, .val (.func (.func 50) #[] #[])), (71, .val (.pointer (some ⟨g, 10, none⟩))), (72, .val (.int .i64 r.follow)), (73, .val (.string (S (decW r.follow)))), (74, .strs [kFOLLOWON, (decW r.follow)]), (75, .line [kFOLLOWON, (decW r.follow)]), (76, .val (.func (.func 50) #[] #[])), (77, .val (.pointer (some ⟨g, 11, none⟩))), (78, .val (.int .i64 r.reviews)), (79, .val (.string (S (decW r.reviews)))), (80, .strs [kREVIEWS, (decW r.reviews)]), (81, .line [kREVIEWS, (decW r.reviews)]), (82, .val (.func (.func 50) #[] #[])), (83, .val (.pointer (some ⟨g, 12, none⟩))), (84, .val (.int .i64 r.outside)), (85, .val (.string (S (decW r.outside)))), (86, .strs [kOUTSIDE, (decW r.outside)]), (87, .line [kOUTSIDE, (decW r.outside)]), (88, .rows (headLines r)), (7, .rows (headLines r))]
def txNeeds : List (List Nat) := [[1], [17], [18], [19], [5], [1], [22], [21, 23], [24], [25], [5], [1], [28], [27, 29], [30], [31], [5], [1], [34], [33, 35], [36], [37], [5], [1], [40], [39, 41], [42], [43], [5], [1], [46], [45, 47], [48], [49], [5], [1], [52], [51, 53], [5], [1], [56], [55, 57], [54, 58], [59], [6], [61], [62], [5], [1], [65], [64, 66], [67], [68], [5], [1], [71], [70, 72], [73], [74], [5], [1], [77], [76, 78], [79], [80], [5], [1], [83], [82, 84], [85], [86], [20, 26, 32, 38, 44, 50, 60, 63, 69, 75, 81, 87], [88]]
section
variable {w0 : World} {r : Rul} {pv : Value} {g : Nat}
theorem tx_0 (hR : ∀ x ∈ rulInts r, 0 ≤ x ∧ x ≤ 10000) {o : Oper} (ho : txOps[0]? = some o) (a : Act) (w : World) (hG : TxG w0 g r pv w) (hn : ∀ x ∈ txNeeds.getD 0 [], Holds (tabK w0.heap.size w0 (txKinds r g)) a w x) : Meets Tryz.prog (tabK w0.heap.size w0 (txKinds r g)) o a w := by
  have e := op_of (show (txOps[0]?).map (fun o => (o.op, o.dst)) = some (.fieldAddr 25 (.tmp 1) 0, some 17) by kernel_rfl) ho
  exact meets_field e.1 (holds_val (hn 1 (of_decide_eq_true (by kernel_rfl))) rfl).2 (fld_0 g w) (tab_o e.2 rfl rfl)
theorem tx_1 (hR : ∀ x ∈ rulInts r, 0 ≤ x ∧ x ≤ 10000) {o : Oper} (ho : txOps[1]? = some o) (a : Act) (w : World) (hG : TxG w0 g r pv w) (hn : ∀ x ∈ txNeeds.getD 1 [], Holds (tabK w0.heap.size w0 (txKinds r g)) a w x) : Meets Tryz.prog (tabK w0.heap.size w0 (txKinds r g)) o a w := by
  have e := op_of (show (txOps[1]?).map (fun o => (o.op, o.dst)) = some (.load 9 (.tmp 17), some 18) by kernel_rfl) ho
  exact meets_load e.1 (holds_val (hn 17 (of_decide_eq_true (by kernel_rfl))) rfl).2 (loadAt_cell (by kernel_rfl) ((hG.lies.blk.cell 0).trans rfl)) (tab_o e.2 rfl rfl)
theorem tx_2 (hR : ∀ x ∈ rulInts r, 0 ≤ x ∧ x ≤ 10000) {o : Oper} (ho : txOps[2]? = some o) (a : Act) (w : World) (hG : TxG w0 g r pv w) (hn : ∀ x ∈ txNeeds.getD 2 [], Holds (tabK w0.heap.size w0 (txKinds r g)) a w x) : Meets Tryz.prog (tabK w0.heap.size w0 (txKinds r g)) o a w := by
  have e := op_of (show (txOps[2]?).map (fun o => (o.op, o.dst)) = some (.buildSlice 64 2 #[(0, .const (.string ⟨#[82, 85, 76, 69, 83]⟩)), (1, .tmp 18)], some 19) by kernel_rfl) ho
  exact k_strs2 e.1 e.2 rfl rfl (holds_val (hn 18 (of_decide_eq_true (by kernel_rfl))) rfl).2 hG.size
theorem tx_3 (hR : ∀ x ∈ rulInts r, 0 ≤ x ∧ x ≤ 10000) {o : Oper} (ho : txOps[3]? = some o) (a : Act) (w : World) (hG : TxG w0 g r pv w) (hn : ∀ x ∈ txNeeds.getD 3 [], Holds (tabK w0.heap.size w0 (txKinds r g)) a w x) : Meets Tryz.prog (tabK w0.heap.size w0 (txKinds r g)) o a w := by
  have e := op_of (show (txOps[3]?).map (fun o => (o.op, o.dst)) = some (.call { callee := .value (.func 51), args := #[.tmp 19], argTypes := #[64] }, some 20) by kernel_rfl) ho
  obtain ⟨v, h1, h2⟩ := (holds_strs (hn 19 (of_decide_eq_true (by kernel_rfl))) rfl)
  exact k_line e.1 e.2 rfl h1 h2 (by simp) hG.size
theorem tx_4 (hR : ∀ x ∈ rulInts r, 0 ≤ x ∧ x ≤ 10000) {o : Oper} (ho : txOps[4]? = some o) (a : Act) (w : World) (hG : TxG w0 g r pv w) (hn : ∀ x ∈ txNeeds.getD 4 [], Holds (tabK w0.heap.size w0 (txKinds r g)) a w x) : Meets Tryz.prog (tabK w0.heap.size w0 (txKinds r g)) o a w := by
  have e := op_of (show (txOps[4]?).map (fun o => (o.op, o.dst)) = some (.move (.tmp 5), some 21) by kernel_rfl) ho
  exact meets_move (.inl e.1) (tab_o e.2 rfl (by rw [(holds_val (hn 5 (of_decide_eq_true (by kernel_rfl))) rfl).2]; rfl))
theorem tx_5 (hR : ∀ x ∈ rulInts r, 0 ≤ x ∧ x ≤ 10000) {o : Oper} (ho : txOps[5]? = some o) (a : Act) (w : World) (hG : TxG w0 g r pv w) (hn : ∀ x ∈ txNeeds.getD 5 [], Holds (tabK w0.heap.size w0 (txKinds r g)) a w x) : Meets Tryz.prog (tabK w0.heap.size w0 (txKinds r g)) o a w := by
  have e := op_of (show (txOps[5]?).map (fun o => (o.op, o.dst)) = some (.fieldAddr 25 (.tmp 1) 1, some 22) by kernel_rfl) ho
  exact meets_field e.1 (holds_val (hn 1 (of_decide_eq_true (by kernel_rfl))) rfl).2 (fld_1 g w) (tab_o e.2 rfl rfl)
theorem tx_6 (hR : ∀ x ∈ rulInts r, 0 ≤ x ∧ x ≤ 10000) {o : Oper} (ho : txOps[6]? = some o) (a : Act) (w : World) (hG : TxG w0 g r pv w) (hn : ∀ x ∈ txNeeds.getD 6 [], Holds (tabK w0.heap.size w0 (txKinds r g)) a w x) : Meets Tryz.prog (tabK w0.heap.size w0 (txKinds r g)) o a w := by
  have e := op_of (show (txOps[6]?).map (fun o => (o.op, o.dst)) = some (.load 3 (.tmp 22), some 23) by kernel_rfl) ho
  exact meets_load e.1 (holds_val (hn 22 (of_decide_eq_true (by kernel_rfl))) rfl).2 (loadAt_cell (by kernel_rfl) ((hG.lies.blk.cell 1).trans rfl)) (tab_o e.2 rfl rfl)
theorem tx_7 (hR : ∀ x ∈ rulInts r, 0 ≤ x ∧ x ≤ 10000) {o : Oper} (ho : txOps[7]? = some o) (a : Act) (w : World) (hG : TxG w0 g r pv w) (hn : ∀ x ∈ txNeeds.getD 7 [], Holds (tabK w0.heap.size w0 (txKinds r g)) a w x) : Meets Tryz.prog (tabK w0.heap.size w0 (txKinds r g)) o a w := by
  have e := op_of (show (txOps[7]?).map (fun o => (o.op, o.dst)) = some (.call { callee := .value (.tmp 21), args := #[.tmp 23], argTypes := #[3] }, some 24) by kernel_rfl) ho
  exact k_dec e.1 e.2 rfl (holds_val (hn 21 (of_decide_eq_true (by kernel_rfl))) rfl).2 (holds_val (hn 23 (of_decide_eq_true (by kernel_rfl))) rfl).2 hG.glob (hR _ (by simp [rulInts]))
theorem tx_8 (hR : ∀ x ∈ rulInts r, 0 ≤ x ∧ x ≤ 10000) {o : Oper} (ho : txOps[8]? = some o) (a : Act) (w : World) (hG : TxG w0 g r pv w) (hn : ∀ x ∈ txNeeds.getD 8 [], Holds (tabK w0.heap.size w0 (txKinds r g)) a w x) : Meets Tryz.prog (tabK w0.heap.size w0 (txKinds r g)) o a w := by
  have e := op_of (show (txOps[8]?).map (fun o => (o.op, o.dst)) = some (.buildSlice 64 2 #[(0, .const (.string ⟨#[83, 73, 68, 69]⟩)), (1, .tmp 24)], some 25) by kernel_rfl) ho
  exact k_strs2 e.1 e.2 rfl rfl (holds_val (hn 24 (of_decide_eq_true (by kernel_rfl))) rfl).2 hG.size
theorem tx_9 (hR : ∀ x ∈ rulInts r, 0 ≤ x ∧ x ≤ 10000) {o : Oper} (ho : txOps[9]? = some o) (a : Act) (w : World) (hG : TxG w0 g r pv w) (hn : ∀ x ∈ txNeeds.getD 9 [], Holds (tabK w0.heap.size w0 (txKinds r g)) a w x) : Meets Tryz.prog (tabK w0.heap.size w0 (txKinds r g)) o a w := by
  have e := op_of (show (txOps[9]?).map (fun o => (o.op, o.dst)) = some (.call { callee := .value (.func 51), args := #[.tmp 25], argTypes := #[64] }, some 26) by kernel_rfl) ho
  obtain ⟨v, h1, h2⟩ := (holds_strs (hn 25 (of_decide_eq_true (by kernel_rfl))) rfl)
  exact k_line e.1 e.2 rfl h1 h2 (by simp) hG.size
theorem tx_10 (hR : ∀ x ∈ rulInts r, 0 ≤ x ∧ x ≤ 10000) {o : Oper} (ho : txOps[10]? = some o) (a : Act) (w : World) (hG : TxG w0 g r pv w) (hn : ∀ x ∈ txNeeds.getD 10 [], Holds (tabK w0.heap.size w0 (txKinds r g)) a w x) : Meets Tryz.prog (tabK w0.heap.size w0 (txKinds r g)) o a w := by
  have e := op_of (show (txOps[10]?).map (fun o => (o.op, o.dst)) = some (.move (.tmp 5), some 27) by kernel_rfl) ho
  exact meets_move (.inl e.1) (tab_o e.2 rfl (by rw [(holds_val (hn 5 (of_decide_eq_true (by kernel_rfl))) rfl).2]; rfl))
theorem tx_11 (hR : ∀ x ∈ rulInts r, 0 ≤ x ∧ x ≤ 10000) {o : Oper} (ho : txOps[11]? = some o) (a : Act) (w : World) (hG : TxG w0 g r pv w) (hn : ∀ x ∈ txNeeds.getD 11 [], Holds (tabK w0.heap.size w0 (txKinds r g)) a w x) : Meets Tryz.prog (tabK w0.heap.size w0 (txKinds r g)) o a w := by
  have e := op_of (show (txOps[11]?).map (fun o => (o.op, o.dst)) = some (.fieldAddr 25 (.tmp 1) 2, some 28) by kernel_rfl) ho
  exact meets_field e.1 (holds_val (hn 1 (of_decide_eq_true (by kernel_rfl))) rfl).2 (fld_2 g w) (tab_o e.2 rfl rfl)
theorem tx_12 (hR : ∀ x ∈ rulInts r, 0 ≤ x ∧ x ≤ 10000) {o : Oper} (ho : txOps[12]? = some o) (a : Act) (w : World) (hG : TxG w0 g r pv w) (hn : ∀ x ∈ txNeeds.getD 12 [], Holds (tabK w0.heap.size w0 (txKinds r g)) a w x) : Meets Tryz.prog (tabK w0.heap.size w0 (txKinds r g)) o a w := by
  have e := op_of (show (txOps[12]?).map (fun o => (o.op, o.dst)) = some (.load 3 (.tmp 28), some 29) by kernel_rfl) ho
  exact meets_load e.1 (holds_val (hn 28 (of_decide_eq_true (by kernel_rfl))) rfl).2 (loadAt_cell (by kernel_rfl) ((hG.lies.blk.cell 2).trans rfl)) (tab_o e.2 rfl rfl)
theorem tx_13 (hR : ∀ x ∈ rulInts r, 0 ≤ x ∧ x ≤ 10000) {o : Oper} (ho : txOps[13]? = some o) (a : Act) (w : World) (hG : TxG w0 g r pv w) (hn : ∀ x ∈ txNeeds.getD 13 [], Holds (tabK w0.heap.size w0 (txKinds r g)) a w x) : Meets Tryz.prog (tabK w0.heap.size w0 (txKinds r g)) o a w := by
  have e := op_of (show (txOps[13]?).map (fun o => (o.op, o.dst)) = some (.call { callee := .value (.tmp 27), args := #[.tmp 29], argTypes := #[3] }, some 30) by kernel_rfl) ho
  exact k_dec e.1 e.2 rfl (holds_val (hn 27 (of_decide_eq_true (by kernel_rfl))) rfl).2 (holds_val (hn 29 (of_decide_eq_true (by kernel_rfl))) rfl).2 hG.glob (hR _ (by simp [rulInts]))
theorem tx_14 (hR : ∀ x ∈ rulInts r, 0 ≤ x ∧ x ≤ 10000) {o : Oper} (ho : txOps[14]? = some o) (a : Act) (w : World) (hG : TxG w0 g r pv w) (hn : ∀ x ∈ txNeeds.getD 14 [], Holds (tabK w0.heap.size w0 (txKinds r g)) a w x) : Meets Tryz.prog (tabK w0.heap.size w0 (txKinds r g)) o a w := by
  have e := op_of (show (txOps[14]?).map (fun o => (o.op, o.dst)) = some (.buildSlice 64 2 #[(0, .const (.string ⟨#[73, 78, 78, 73, 78, 71, 83]⟩)), (1, .tmp 30)], some 31) by kernel_rfl) ho
  exact k_strs2 e.1 e.2 rfl rfl (holds_val (hn 30 (of_decide_eq_true (by kernel_rfl))) rfl).2 hG.size
theorem tx_15 (hR : ∀ x ∈ rulInts r, 0 ≤ x ∧ x ≤ 10000) {o : Oper} (ho : txOps[15]? = some o) (a : Act) (w : World) (hG : TxG w0 g r pv w) (hn : ∀ x ∈ txNeeds.getD 15 [], Holds (tabK w0.heap.size w0 (txKinds r g)) a w x) : Meets Tryz.prog (tabK w0.heap.size w0 (txKinds r g)) o a w := by
  have e := op_of (show (txOps[15]?).map (fun o => (o.op, o.dst)) = some (.call { callee := .value (.func 51), args := #[.tmp 31], argTypes := #[64] }, some 32) by kernel_rfl) ho
  obtain ⟨v, h1, h2⟩ := (holds_strs (hn 31 (of_decide_eq_true (by kernel_rfl))) rfl)
  exact k_line e.1 e.2 rfl h1 h2 (by simp) hG.size
theorem tx_16 (hR : ∀ x ∈ rulInts r, 0 ≤ x ∧ x ≤ 10000) {o : Oper} (ho : txOps[16]? = some o) (a : Act) (w : World) (hG : TxG w0 g r pv w) (hn : ∀ x ∈ txNeeds.getD 16 [], Holds (tabK w0.heap.size w0 (txKinds r g)) a w x) : Meets Tryz.prog (tabK w0.heap.size w0 (txKinds r g)) o a w := by
  have e := op_of (show (txOps[16]?).map (fun o => (o.op, o.dst)) = some (.move (.tmp 5), some 33) by kernel_rfl) ho
  exact meets_move (.inl e.1) (tab_o e.2 rfl (by rw [(holds_val (hn 5 (of_decide_eq_true (by kernel_rfl))) rfl).2]; rfl))
theorem tx_17 (hR : ∀ x ∈ rulInts r, 0 ≤ x ∧ x ≤ 10000) {o : Oper} (ho : txOps[17]? = some o) (a : Act) (w : World) (hG : TxG w0 g r pv w) (hn : ∀ x ∈ txNeeds.getD 17 [], Holds (tabK w0.heap.size w0 (txKinds r g)) a w x) : Meets Tryz.prog (tabK w0.heap.size w0 (txKinds r g)) o a w := by
  have e := op_of (show (txOps[17]?).map (fun o => (o.op, o.dst)) = some (.fieldAddr 25 (.tmp 1) 3, some 34) by kernel_rfl) ho
  exact meets_field e.1 (holds_val (hn 1 (of_decide_eq_true (by kernel_rfl))) rfl).2 (fld_3 g w) (tab_o e.2 rfl rfl)
theorem tx_18 (hR : ∀ x ∈ rulInts r, 0 ≤ x ∧ x ≤ 10000) {o : Oper} (ho : txOps[18]? = some o) (a : Act) (w : World) (hG : TxG w0 g r pv w) (hn : ∀ x ∈ txNeeds.getD 18 [], Holds (tabK w0.heap.size w0 (txKinds r g)) a w x) : Meets Tryz.prog (tabK w0.heap.size w0 (txKinds r g)) o a w := by
  have e := op_of (show (txOps[18]?).map (fun o => (o.op, o.dst)) = some (.load 3 (.tmp 34), some 35) by kernel_rfl) ho
  exact meets_load e.1 (holds_val (hn 34 (of_decide_eq_true (by kernel_rfl))) rfl).2 (loadAt_cell (by kernel_rfl) ((hG.lies.blk.cell 3).trans rfl)) (tab_o e.2 rfl rfl)
theorem tx_19 (hR : ∀ x ∈ rulInts r, 0 ≤ x ∧ x ≤ 10000) {o : Oper} (ho : txOps[19]? = some o) (a : Act) (w : World) (hG : TxG w0 g r pv w) (hn : ∀ x ∈ txNeeds.getD 19 [], Holds (tabK w0.heap.size w0 (txKinds r g)) a w x) : Meets Tryz.prog (tabK w0.heap.size w0 (txKinds r g)) o a w := by
  have e := op_of (show (txOps[19]?).map (fun o => (o.op, o.dst)) = some (.call { callee := .value (.tmp 33), args := #[.tmp 35], argTypes := #[3] }, some 36) by kernel_rfl) ho
  exact k_dec e.1 e.2 rfl (holds_val (hn 33 (of_decide_eq_true (by kernel_rfl))) rfl).2 (holds_val (hn 35 (of_decide_eq_true (by kernel_rfl))) rfl).2 hG.glob (hR _ (by simp [rulInts]))
theorem tx_20 (hR : ∀ x ∈ rulInts r, 0 ≤ x ∧ x ≤ 10000) {o : Oper} (ho : txOps[20]? = some o) (a : Act) (w : World) (hG : TxG w0 g r pv w) (hn : ∀ x ∈ txNeeds.getD 20 [], Holds (tabK w0.heap.size w0 (txKinds r g)) a w x) : Meets Tryz.prog (tabK w0.heap.size w0 (txKinds r g)) o a w := by
  have e := op_of (show (txOps[20]?).map (fun o => (o.op, o.dst)) = some (.buildSlice 64 2 #[(0, .const (.string ⟨#[79, 86, 69, 82, 83]⟩)), (1, .tmp 36)], some 37) by kernel_rfl) ho
  exact k_strs2 e.1 e.2 rfl rfl (holds_val (hn 36 (of_decide_eq_true (by kernel_rfl))) rfl).2 hG.size
theorem tx_21 (hR : ∀ x ∈ rulInts r, 0 ≤ x ∧ x ≤ 10000) {o : Oper} (ho : txOps[21]? = some o) (a : Act) (w : World) (hG : TxG w0 g r pv w) (hn : ∀ x ∈ txNeeds.getD 21 [], Holds (tabK w0.heap.size w0 (txKinds r g)) a w x) : Meets Tryz.prog (tabK w0.heap.size w0 (txKinds r g)) o a w := by
  have e := op_of (show (txOps[21]?).map (fun o => (o.op, o.dst)) = some (.call { callee := .value (.func 51), args := #[.tmp 37], argTypes := #[64] }, some 38) by kernel_rfl) ho
  obtain ⟨v, h1, h2⟩ := (holds_strs (hn 37 (of_decide_eq_true (by kernel_rfl))) rfl)
  exact k_line e.1 e.2 rfl h1 h2 (by simp) hG.size
theorem tx_22 (hR : ∀ x ∈ rulInts r, 0 ≤ x ∧ x ≤ 10000) {o : Oper} (ho : txOps[22]? = some o) (a : Act) (w : World) (hG : TxG w0 g r pv w) (hn : ∀ x ∈ txNeeds.getD 22 [], Holds (tabK w0.heap.size w0 (txKinds r g)) a w x) : Meets Tryz.prog (tabK w0.heap.size w0 (txKinds r g)) o a w := by
  have e := op_of (show (txOps[22]?).map (fun o => (o.op, o.dst)) = some (.move (.tmp 5), some 39) by kernel_rfl) ho
  exact meets_move (.inl e.1) (tab_o e.2 rfl (by rw [(holds_val (hn 5 (of_decide_eq_true (by kernel_rfl))) rfl).2]; rfl))
theorem tx_23 (hR : ∀ x ∈ rulInts r, 0 ≤ x ∧ x ≤ 10000) {o : Oper} (ho : txOps[23]? = some o) (a : Act) (w : World) (hG : TxG w0 g r pv w) (hn : ∀ x ∈ txNeeds.getD 23 [], Holds (tabK w0.heap.size w0 (txKinds r g)) a w x) : Meets Tryz.prog (tabK w0.heap.size w0 (txKinds r g)) o a w := by
  have e := op_of (show (txOps[23]?).map (fun o => (o.op, o.dst)) = some (.fieldAddr 25 (.tmp 1) 4, some 40) by kernel_rfl) ho
  exact meets_field e.1 (holds_val (hn 1 (of_decide_eq_true (by kernel_rfl))) rfl).2 (fld_4 g w) (tab_o e.2 rfl rfl)
theorem tx_24 (hR : ∀ x ∈ rulInts r, 0 ≤ x ∧ x ≤ 10000) {o : Oper} (ho : txOps[24]? = some o) (a : Act) (w : World) (hG : TxG w0 g r pv w) (hn : ∀ x ∈ txNeeds.getD 24 [], Holds (tabK w0.heap.size w0 (txKinds r g)) a w x) : Meets Tryz.prog (tabK w0.heap.size w0 (txKinds r g)) o a w := by
  have e := op_of (show (txOps[24]?).map (fun o => (o.op, o.dst)) = some (.load 3 (.tmp 40), some 41) by kernel_rfl) ho
  exact meets_load e.1 (holds_val (hn 40 (of_decide_eq_true (by kernel_rfl))) rfl).2 (loadAt_cell (by kernel_rfl) ((hG.lies.blk.cell 4).trans rfl)) (tab_o e.2 rfl rfl)
theorem tx_25 (hR : ∀ x ∈ rulInts r, 0 ≤ x ∧ x ≤ 10000) {o : Oper} (ho : txOps[25]? = some o) (a : Act) (w : World) (hG : TxG w0 g r pv w) (hn : ∀ x ∈ txNeeds.getD 25 [], Holds (tabK w0.heap.size w0 (txKinds r g)) a w x) : Meets Tryz.prog (tabK w0.heap.size w0 (txKinds r g)) o a w := by
  have e := op_of (show (txOps[25]?).map (fun o => (o.op, o.dst)) = some (.call { callee := .value (.tmp 39), args := #[.tmp 41], argTypes := #[3] }, some 42) by kernel_rfl) ho
  exact k_dec e.1 e.2 rfl (holds_val (hn 39 (of_decide_eq_true (by kernel_rfl))) rfl).2 (holds_val (hn 41 (of_decide_eq_true (by kernel_rfl))) rfl).2 hG.glob (hR _ (by simp [rulInts]))
theorem tx_26 (hR : ∀ x ∈ rulInts r, 0 ≤ x ∧ x ≤ 10000) {o : Oper} (ho : txOps[26]? = some o) (a : Act) (w : World) (hG : TxG w0 g r pv w) (hn : ∀ x ∈ txNeeds.getD 26 [], Holds (tabK w0.heap.size w0 (txKinds r g)) a w x) : Meets Tryz.prog (tabK w0.heap.size w0 (txKinds r g)) o a w := by
  have e := op_of (show (txOps[26]?).map (fun o => (o.op, o.dst)) = some (.buildSlice 64 2 #[(0, .const (.string ⟨#[66, 65, 76, 76, 83]⟩)), (1, .tmp 42)], some 43) by kernel_rfl) ho
  exact k_strs2 e.1 e.2 rfl rfl (holds_val (hn 42 (of_decide_eq_true (by kernel_rfl))) rfl).2 hG.size
theorem tx_27 (hR : ∀ x ∈ rulInts r, 0 ≤ x ∧ x ≤ 10000) {o : Oper} (ho : txOps[27]? = some o) (a : Act) (w : World) (hG : TxG w0 g r pv w) (hn : ∀ x ∈ txNeeds.getD 27 [], Holds (tabK w0.heap.size w0 (txKinds r g)) a w x) : Meets Tryz.prog (tabK w0.heap.size w0 (txKinds r g)) o a w := by
  have e := op_of (show (txOps[27]?).map (fun o => (o.op, o.dst)) = some (.call { callee := .value (.func 51), args := #[.tmp 43], argTypes := #[64] }, some 44) by kernel_rfl) ho
  obtain ⟨v, h1, h2⟩ := (holds_strs (hn 43 (of_decide_eq_true (by kernel_rfl))) rfl)
  exact k_line e.1 e.2 rfl h1 h2 (by simp) hG.size
theorem tx_28 (hR : ∀ x ∈ rulInts r, 0 ≤ x ∧ x ≤ 10000) {o : Oper} (ho : txOps[28]? = some o) (a : Act) (w : World) (hG : TxG w0 g r pv w) (hn : ∀ x ∈ txNeeds.getD 28 [], Holds (tabK w0.heap.size w0 (txKinds r g)) a w x) : Meets Tryz.prog (tabK w0.heap.size w0 (txKinds r g)) o a w := by
  have e := op_of (show (txOps[28]?).map (fun o => (o.op, o.dst)) = some (.move (.tmp 5), some 45) by kernel_rfl) ho
  exact meets_move (.inl e.1) (tab_o e.2 rfl (by rw [(holds_val (hn 5 (of_decide_eq_true (by kernel_rfl))) rfl).2]; rfl))
theorem tx_29 (hR : ∀ x ∈ rulInts r, 0 ≤ x ∧ x ≤ 10000) {o : Oper} (ho : txOps[29]? = some o) (a : Act) (w : World) (hG : TxG w0 g r pv w) (hn : ∀ x ∈ txNeeds.getD 29 [], Holds (tabK w0.heap.size w0 (txKinds r g)) a w x) : Meets Tryz.prog (tabK w0.heap.size w0 (txKinds r g)) o a w := by
  have e := op_of (show (txOps[29]?).map (fun o => (o.op, o.dst)) = some (.fieldAddr 25 (.tmp 1) 5, some 46) by kernel_rfl) ho
  exact meets_field e.1 (holds_val (hn 1 (of_decide_eq_true (by kernel_rfl))) rfl).2 (fld_5 g w) (tab_o e.2 rfl rfl)
theorem tx_30 (hR : ∀ x ∈ rulInts r, 0 ≤ x ∧ x ≤ 10000) {o : Oper} (ho : txOps[30]? = some o) (a : Act) (w : World) (hG : TxG w0 g r pv w) (hn : ∀ x ∈ txNeeds.getD 30 [], Holds (tabK w0.heap.size w0 (txKinds r g)) a w x) : Meets Tryz.prog (tabK w0.heap.size w0 (txKinds r g)) o a w := by
  have e := op_of (show (txOps[30]?).map (fun o => (o.op, o.dst)) = some (.load 3 (.tmp 46), some 47) by kernel_rfl) ho
  exact meets_load e.1 (holds_val (hn 46 (of_decide_eq_true (by kernel_rfl))) rfl).2 (loadAt_cell (by kernel_rfl) ((hG.lies.blk.cell 5).trans rfl)) (tab_o e.2 rfl rfl)
theorem tx_31 (hR : ∀ x ∈ rulInts r, 0 ≤ x ∧ x ≤ 10000) {o : Oper} (ho : txOps[31]? = some o) (a : Act) (w : World) (hG : TxG w0 g r pv w) (hn : ∀ x ∈ txNeeds.getD 31 [], Holds (tabK w0.heap.size w0 (txKinds r g)) a w x) : Meets Tryz.prog (tabK w0.heap.size w0 (txKinds r g)) o a w := by
  have e := op_of (show (txOps[31]?).map (fun o => (o.op, o.dst)) = some (.call { callee := .value (.tmp 45), args := #[.tmp 47], argTypes := #[3] }, some 48) by kernel_rfl) ho
  exact k_dec e.1 e.2 rfl (holds_val (hn 45 (of_decide_eq_true (by kernel_rfl))) rfl).2 (holds_val (hn 47 (of_decide_eq_true (by kernel_rfl))) rfl).2 hG.glob (hR _ (by simp [rulInts]))
theorem tx_32 (hR : ∀ x ∈ rulInts r, 0 ≤ x ∧ x ≤ 10000) {o : Oper} (ho : txOps[32]? = some o) (a : Act) (w : World) (hG : TxG w0 g r pv w) (hn : ∀ x ∈ txNeeds.getD 32 [], Holds (tabK w0.heap.size w0 (txKinds r g)) a w x) : Meets Tryz.prog (tabK w0.heap.size w0 (txKinds r g)) o a w := by
  have e := op_of (show (txOps[32]?).map (fun o => (o.op, o.dst)) = some (.buildSlice 64 2 #[(0, .const (.string ⟨#[81, 85, 79, 84, 65]⟩)), (1, .tmp 48)], some 49) by kernel_rfl) ho
  exact k_strs2 e.1 e.2 rfl rfl (holds_val (hn 48 (of_decide_eq_true (by kernel_rfl))) rfl).2 hG.size
theorem tx_33 (hR : ∀ x ∈ rulInts r, 0 ≤ x ∧ x ≤ 10000) {o : Oper} (ho : txOps[33]? = some o) (a : Act) (w : World) (hG : TxG w0 g r pv w) (hn : ∀ x ∈ txNeeds.getD 33 [], Holds (tabK w0.heap.size w0 (txKinds r g)) a w x) : Meets Tryz.prog (tabK w0.heap.size w0 (txKinds r g)) o a w := by
  have e := op_of (show (txOps[33]?).map (fun o => (o.op, o.dst)) = some (.call { callee := .value (.func 51), args := #[.tmp 49], argTypes := #[64] }, some 50) by kernel_rfl) ho
  obtain ⟨v, h1, h2⟩ := (holds_strs (hn 49 (of_decide_eq_true (by kernel_rfl))) rfl)
  exact k_line e.1 e.2 rfl h1 h2 (by simp) hG.size
theorem tx_34 (hR : ∀ x ∈ rulInts r, 0 ≤ x ∧ x ≤ 10000) {o : Oper} (ho : txOps[34]? = some o) (a : Act) (w : World) (hG : TxG w0 g r pv w) (hn : ∀ x ∈ txNeeds.getD 34 [], Holds (tabK w0.heap.size w0 (txKinds r g)) a w x) : Meets Tryz.prog (tabK w0.heap.size w0 (txKinds r g)) o a w := by
  have e := op_of (show (txOps[34]?).map (fun o => (o.op, o.dst)) = some (.move (.tmp 5), some 51) by kernel_rfl) ho
  exact meets_move (.inl e.1) (tab_o e.2 rfl (by rw [(holds_val (hn 5 (of_decide_eq_true (by kernel_rfl))) rfl).2]; rfl))
theorem tx_35 (hR : ∀ x ∈ rulInts r, 0 ≤ x ∧ x ≤ 10000) {o : Oper} (ho : txOps[35]? = some o) (a : Act) (w : World) (hG : TxG w0 g r pv w) (hn : ∀ x ∈ txNeeds.getD 35 [], Holds (tabK w0.heap.size w0 (txKinds r g)) a w x) : Meets Tryz.prog (tabK w0.heap.size w0 (txKinds r g)) o a w := by
  have e := op_of (show (txOps[35]?).map (fun o => (o.op, o.dst)) = some (.fieldAddr 25 (.tmp 1) 6, some 52) by kernel_rfl) ho
  exact meets_field e.1 (holds_val (hn 1 (of_decide_eq_true (by kernel_rfl))) rfl).2 (fld_6 g w) (tab_o e.2 rfl rfl)
theorem tx_36 (hR : ∀ x ∈ rulInts r, 0 ≤ x ∧ x ≤ 10000) {o : Oper} (ho : txOps[36]? = some o) (a : Act) (w : World) (hG : TxG w0 g r pv w) (hn : ∀ x ∈ txNeeds.getD 36 [], Holds (tabK w0.heap.size w0 (txKinds r g)) a w x) : Meets Tryz.prog (tabK w0.heap.size w0 (txKinds r g)) o a w := by
  have e := op_of (show (txOps[36]?).map (fun o => (o.op, o.dst)) = some (.load 3 (.tmp 52), some 53) by kernel_rfl) ho
  exact meets_load e.1 (holds_val (hn 52 (of_decide_eq_true (by kernel_rfl))) rfl).2 (loadAt_cell (by kernel_rfl) ((hG.lies.blk.cell 6).trans rfl)) (tab_o e.2 rfl rfl)
theorem tx_37 (hR : ∀ x ∈ rulInts r, 0 ≤ x ∧ x ≤ 10000) {o : Oper} (ho : txOps[37]? = some o) (a : Act) (w : World) (hG : TxG w0 g r pv w) (hn : ∀ x ∈ txNeeds.getD 37 [], Holds (tabK w0.heap.size w0 (txKinds r g)) a w x) : Meets Tryz.prog (tabK w0.heap.size w0 (txKinds r g)) o a w := by
  have e := op_of (show (txOps[37]?).map (fun o => (o.op, o.dst)) = some (.call { callee := .value (.tmp 51), args := #[.tmp 53], argTypes := #[3] }, some 54) by kernel_rfl) ho
  exact k_dec e.1 e.2 rfl (holds_val (hn 51 (of_decide_eq_true (by kernel_rfl))) rfl).2 (holds_val (hn 53 (of_decide_eq_true (by kernel_rfl))) rfl).2 hG.glob (hR _ (by simp [rulInts]))
theorem tx_38 (hR : ∀ x ∈ rulInts r, 0 ≤ x ∧ x ≤ 10000) {o : Oper} (ho : txOps[38]? = some o) (a : Act) (w : World) (hG : TxG w0 g r pv w) (hn : ∀ x ∈ txNeeds.getD 38 [], Holds (tabK w0.heap.size w0 (txKinds r g)) a w x) : Meets Tryz.prog (tabK w0.heap.size w0 (txKinds r g)) o a w := by
  have e := op_of (show (txOps[38]?).map (fun o => (o.op, o.dst)) = some (.move (.tmp 5), some 55) by kernel_rfl) ho
  exact meets_move (.inl e.1) (tab_o e.2 rfl (by rw [(holds_val (hn 5 (of_decide_eq_true (by kernel_rfl))) rfl).2]; rfl))
theorem tx_39 (hR : ∀ x ∈ rulInts r, 0 ≤ x ∧ x ≤ 10000) {o : Oper} (ho : txOps[39]? = some o) (a : Act) (w : World) (hG : TxG w0 g r pv w) (hn : ∀ x ∈ txNeeds.getD 39 [], Holds (tabK w0.heap.size w0 (txKinds r g)) a w x) : Meets Tryz.prog (tabK w0.heap.size w0 (txKinds r g)) o a w := by
  have e := op_of (show (txOps[39]?).map (fun o => (o.op, o.dst)) = some (.fieldAddr 25 (.tmp 1) 7, some 56) by kernel_rfl) ho
  exact meets_field e.1 (holds_val (hn 1 (of_decide_eq_true (by kernel_rfl))) rfl).2 (fld_7 g w) (tab_o e.2 rfl rfl)
theorem tx_40 (hR : ∀ x ∈ rulInts r, 0 ≤ x ∧ x ≤ 10000) {o : Oper} (ho : txOps[40]? = some o) (a : Act) (w : World) (hG : TxG w0 g r pv w) (hn : ∀ x ∈ txNeeds.getD 40 [], Holds (tabK w0.heap.size w0 (txKinds r g)) a w x) : Meets Tryz.prog (tabK w0.heap.size w0 (txKinds r g)) o a w := by
  have e := op_of (show (txOps[40]?).map (fun o => (o.op, o.dst)) = some (.load 3 (.tmp 56), some 57) by kernel_rfl) ho
  exact meets_load e.1 (holds_val (hn 56 (of_decide_eq_true (by kernel_rfl))) rfl).2 (loadAt_cell (by kernel_rfl) ((hG.lies.blk.cell 7).trans rfl)) (tab_o e.2 rfl rfl)
theorem tx_41 (hR : ∀ x ∈ rulInts r, 0 ≤ x ∧ x ≤ 10000) {o : Oper} (ho : txOps[41]? = some o) (a : Act) (w : World) (hG : TxG w0 g r pv w) (hn : ∀ x ∈ txNeeds.getD 41 [], Holds (tabK w0.heap.size w0 (txKinds r g)) a w x) : Meets Tryz.prog (tabK w0.heap.size w0 (txKinds r g)) o a w := by
  have e := op_of (show (txOps[41]?).map (fun o => (o.op, o.dst)) = some (.call { callee := .value (.tmp 55), args := #[.tmp 57], argTypes := #[3] }, some 58) by kernel_rfl) ho
  exact k_dec e.1 e.2 rfl (holds_val (hn 55 (of_decide_eq_true (by kernel_rfl))) rfl).2 (holds_val (hn 57 (of_decide_eq_true (by kernel_rfl))) rfl).2 hG.glob (hR _ (by simp [rulInts]))
theorem tx_42 (hR : ∀ x ∈ rulInts r, 0 ≤ x ∧ x ≤ 10000) {o : Oper} (ho : txOps[42]? = some o) (a : Act) (w : World) (hG : TxG w0 g r pv w) (hn : ∀ x ∈ txNeeds.getD 42 [], Holds (tabK w0.heap.size w0 (txKinds r g)) a w x) : Meets Tryz.prog (tabK w0.heap.size w0 (txKinds r g)) o a w := by
  have e := op_of (show (txOps[42]?).map (fun o => (o.op, o.dst)) = some (.buildSlice 64 3 #[(0, .const (.string ⟨#[82, 85, 78, 83]⟩)), (1, .tmp 54), (2, .tmp 58)], some 59) by kernel_rfl) ho
  exact k_strs3 e.1 e.2 rfl rfl (holds_val (hn 54 (of_decide_eq_true (by kernel_rfl))) rfl).2 (holds_val (hn 58 (of_decide_eq_true (by kernel_rfl))) rfl).2 hG.size
theorem tx_43 (hR : ∀ x ∈ rulInts r, 0 ≤ x ∧ x ≤ 10000) {o : Oper} (ho : txOps[43]? = some o) (a : Act) (w : World) (hG : TxG w0 g r pv w) (hn : ∀ x ∈ txNeeds.getD 43 [], Holds (tabK w0.heap.size w0 (txKinds r g)) a w x) : Meets Tryz.prog (tabK w0.heap.size w0 (txKinds r g)) o a w := by
  have e := op_of (show (txOps[43]?).map (fun o => (o.op, o.dst)) = some (.call { callee := .value (.func 51), args := #[.tmp 59], argTypes := #[64] }, some 60) by kernel_rfl) ho
  obtain ⟨v, h1, h2⟩ := (holds_strs (hn 59 (of_decide_eq_true (by kernel_rfl))) rfl)
  exact k_line e.1 e.2 rfl h1 h2 (by simp) hG.size
theorem tx_44 (hR : ∀ x ∈ rulInts r, 0 ≤ x ∧ x ≤ 10000) {o : Oper} (ho : txOps[44]? = some o) (a : Act) (w : World) (hG : TxG w0 g r pv w) (hn : ∀ x ∈ txNeeds.getD 44 [], Holds (tabK w0.heap.size w0 (txKinds r g)) a w x) : Meets Tryz.prog (tabK w0.heap.size w0 (txKinds r g)) o a w := by
  have e := op_of (show (txOps[44]?).map (fun o => (o.op, o.dst)) = some (.move (.tmp 6), some 61) by kernel_rfl) ho
  exact meets_move (.inl e.1) (tab_o e.2 rfl (by rw [(holds_val (hn 6 (of_decide_eq_true (by kernel_rfl))) rfl).2]; rfl))
theorem tx_45 (hR : ∀ x ∈ rulInts r, 0 ≤ x ∧ x ≤ 10000) {o : Oper} (ho : txOps[45]? = some o) (a : Act) (w : World) (hG : TxG w0 g r pv w) (hn : ∀ x ∈ txNeeds.getD 45 [], Holds (tabK w0.heap.size w0 (txKinds r g)) a w x) : Meets Tryz.prog (tabK w0.heap.size w0 (txKinds r g)) o a w := by
  have e := op_of (show (txOps[45]?).map (fun o => (o.op, o.dst)) = some (.buildSlice 64 2 #[(0, .const (.string ⟨#[70, 82, 69, 69, 72, 73, 84]⟩)), (1, .tmp 61)], some 62) by kernel_rfl) ho
  exact k_strs2 e.1 e.2 rfl rfl (holds_val (hn 61 (of_decide_eq_true (by kernel_rfl))) rfl).2 hG.size
theorem tx_46 (hR : ∀ x ∈ rulInts r, 0 ≤ x ∧ x ≤ 10000) {o : Oper} (ho : txOps[46]? = some o) (a : Act) (w : World) (hG : TxG w0 g r pv w) (hn : ∀ x ∈ txNeeds.getD 46 [], Holds (tabK w0.heap.size w0 (txKinds r g)) a w x) : Meets Tryz.prog (tabK w0.heap.size w0 (txKinds r g)) o a w := by
  have e := op_of (show (txOps[46]?).map (fun o => (o.op, o.dst)) = some (.call { callee := .value (.func 51), args := #[.tmp 62], argTypes := #[64] }, some 63) by kernel_rfl) ho
  obtain ⟨v, h1, h2⟩ := (holds_strs (hn 62 (of_decide_eq_true (by kernel_rfl))) rfl)
  exact k_line e.1 e.2 rfl h1 h2 (by simp) hG.size
theorem tx_47 (hR : ∀ x ∈ rulInts r, 0 ≤ x ∧ x ≤ 10000) {o : Oper} (ho : txOps[47]? = some o) (a : Act) (w : World) (hG : TxG w0 g r pv w) (hn : ∀ x ∈ txNeeds.getD 47 [], Holds (tabK w0.heap.size w0 (txKinds r g)) a w x) : Meets Tryz.prog (tabK w0.heap.size w0 (txKinds r g)) o a w := by
  have e := op_of (show (txOps[47]?).map (fun o => (o.op, o.dst)) = some (.move (.tmp 5), some 64) by kernel_rfl) ho
  exact meets_move (.inl e.1) (tab_o e.2 rfl (by rw [(holds_val (hn 5 (of_decide_eq_true (by kernel_rfl))) rfl).2]; rfl))
theorem tx_48 (hR : ∀ x ∈ rulInts r, 0 ≤ x ∧ x ≤ 10000) {o : Oper} (ho : txOps[48]? = some o) (a : Act) (w : World) (hG : TxG w0 g r pv w) (hn : ∀ x ∈ txNeeds.getD 48 [], Holds (tabK w0.heap.size w0 (txKinds r g)) a w x) : Meets Tryz.prog (tabK w0.heap.size w0 (txKinds r g)) o a w := by
  have e := op_of (show (txOps[48]?).map (fun o => (o.op, o.dst)) = some (.fieldAddr 25 (.tmp 1) 9, some 65) by kernel_rfl) ho
  exact meets_field e.1 (holds_val (hn 1 (of_decide_eq_true (by kernel_rfl))) rfl).2 (fld_9 g w) (tab_o e.2 rfl rfl)
theorem tx_49 (hR : ∀ x ∈ rulInts r, 0 ≤ x ∧ x ≤ 10000) {o : Oper} (ho : txOps[49]? = some o) (a : Act) (w : World) (hG : TxG w0 g r pv w) (hn : ∀ x ∈ txNeeds.getD 49 [], Holds (tabK w0.heap.size w0 (txKinds r g)) a w x) : Meets Tryz.prog (tabK w0.heap.size w0 (txKinds r g)) o a w := by
  have e := op_of (show (txOps[49]?).map (fun o => (o.op, o.dst)) = some (.load 3 (.tmp 65), some 66) by kernel_rfl) ho
  exact meets_load e.1 (holds_val (hn 65 (of_decide_eq_true (by kernel_rfl))) rfl).2 (loadAt_cell (by kernel_rfl) ((hG.lies.blk.cell 9).trans rfl)) (tab_o e.2 rfl rfl)
theorem tx_50 (hR : ∀ x ∈ rulInts r, 0 ≤ x ∧ x ≤ 10000) {o : Oper} (ho : txOps[50]? = some o) (a : Act) (w : World) (hG : TxG w0 g r pv w) (hn : ∀ x ∈ txNeeds.getD 50 [], Holds (tabK w0.heap.size w0 (txKinds r g)) a w x) : Meets Tryz.prog (tabK w0.heap.size w0 (txKinds r g)) o a w := by
  have e := op_of (show (txOps[50]?).map (fun o => (o.op, o.dst)) = some (.call { callee := .value (.tmp 64), args := #[.tmp 66], argTypes := #[3] }, some 67) by kernel_rfl) ho
  exact k_dec e.1 e.2 rfl (holds_val (hn 64 (of_decide_eq_true (by kernel_rfl))) rfl).2 (holds_val (hn 66 (of_decide_eq_true (by kernel_rfl))) rfl).2 hG.glob (hR _ (by simp [rulInts]))
theorem tx_51 (hR : ∀ x ∈ rulInts r, 0 ≤ x ∧ x ≤ 10000) {o : Oper} (ho : txOps[51]? = some o) (a : Act) (w : World) (hG : TxG w0 g r pv w) (hn : ∀ x ∈ txNeeds.getD 51 [], Holds (tabK w0.heap.size w0 (txKinds r g)) a w x) : Meets Tryz.prog (tabK w0.heap.size w0 (txKinds r g)) o a w := by
  have e := op_of (show (txOps[51]?).map (fun o => (o.op, o.dst)) = some (.buildSlice 64 2 #[(0, .const (.string ⟨#[78, 69, 87, 66, 65, 76, 76]⟩)), (1, .tmp 67)], some 68) by kernel_rfl) ho
  exact k_strs2 e.1 e.2 rfl rfl (holds_val (hn 67 (of_decide_eq_true (by kernel_rfl))) rfl).2 hG.size
theorem tx_52 (hR : ∀ x ∈ rulInts r, 0 ≤ x ∧ x ≤ 10000) {o : Oper} (ho : txOps[52]? = some o) (a : Act) (w : World) (hG : TxG w0 g r pv w) (hn : ∀ x ∈ txNeeds.getD 52 [], Holds (tabK w0.heap.size w0 (txKinds r g)) a w x) : Meets Tryz.prog (tabK w0.heap.size w0 (txKinds r g)) o a w := by
  have e := op_of (show (txOps[52]?).map (fun o => (o.op, o.dst)) = some (.call { callee := .value (.func 51), args := #[.tmp 68], argTypes := #[64] }, some 69) by kernel_rfl) ho
  obtain ⟨v, h1, h2⟩ := (holds_strs (hn 68 (of_decide_eq_true (by kernel_rfl))) rfl)
  exact k_line e.1 e.2 rfl h1 h2 (by simp) hG.size
theorem tx_53 (hR : ∀ x ∈ rulInts r, 0 ≤ x ∧ x ≤ 10000) {o : Oper} (ho : txOps[53]? = some o) (a : Act) (w : World) (hG : TxG w0 g r pv w) (hn : ∀ x ∈ txNeeds.getD 53 [], Holds (tabK w0.heap.size w0 (txKinds r g)) a w x) : Meets Tryz.prog (tabK w0.heap.size w0 (txKinds r g)) o a w := by
  have e := op_of (show (txOps[53]?).map (fun o => (o.op, o.dst)) = some (.move (.tmp 5), some 70) by kernel_rfl) ho
  exact meets_move (.inl e.1) (tab_o e.2 rfl (by rw [(holds_val (hn 5 (of_decide_eq_true (by kernel_rfl))) rfl).2]; rfl))
theorem tx_54 (hR : ∀ x ∈ rulInts r, 0 ≤ x ∧ x ≤ 10000) {o : Oper} (ho : txOps[54]? = some o) (a : Act) (w : World) (hG : TxG w0 g r pv w) (hn : ∀ x ∈ txNeeds.getD 54 [], Holds (tabK w0.heap.size w0 (txKinds r g)) a w x) : Meets Tryz.prog (tabK w0.heap.size w0 (txKinds r g)) o a w := by
  have e := op_of (show (txOps[54]?).map (fun o => (o.op, o.dst)) = some (.fieldAddr 25 (.tmp 1) 10, some 71) by kernel_rfl) ho
  exact meets_field e.1 (holds_val (hn 1 (of_decide_eq_true (by kernel_rfl))) rfl).2 (fld_10 g w) (tab_o e.2 rfl rfl)
theorem tx_55 (hR : ∀ x ∈ rulInts r, 0 ≤ x ∧ x ≤ 10000) {o : Oper} (ho : txOps[55]? = some o) (a : Act) (w : World) (hG : TxG w0 g r pv w) (hn : ∀ x ∈ txNeeds.getD 55 [], Holds (tabK w0.heap.size w0 (txKinds r g)) a w x) : Meets Tryz.prog (tabK w0.heap.size w0 (txKinds r g)) o a w := by
  have e := op_of (show (txOps[55]?).map (fun o => (o.op, o.dst)) = some (.load 3 (.tmp 71), some 72) by kernel_rfl) ho
  exact meets_load e.1 (holds_val (hn 71 (of_decide_eq_true (by kernel_rfl))) rfl).2 (loadAt_cell (by kernel_rfl) ((hG.lies.blk.cell 10).trans rfl)) (tab_o e.2 rfl rfl)
theorem tx_56 (hR : ∀ x ∈ rulInts r, 0 ≤ x ∧ x ≤ 10000) {o : Oper} (ho : txOps[56]? = some o) (a : Act) (w : World) (hG : TxG w0 g r pv w) (hn : ∀ x ∈ txNeeds.getD 56 [], Holds (tabK w0.heap.size w0 (txKinds r g)) a w x) : Meets Tryz.prog (tabK w0.heap.size w0 (txKinds r g)) o a w := by
  have e := op_of (show (txOps[56]?).map (fun o => (o.op, o.dst)) = some (.call { callee := .value (.tmp 70), args := #[.tmp 72], argTypes := #[3] }, some 73) by kernel_rfl) ho
  exact k_dec e.1 e.2 rfl (holds_val (hn 70 (of_decide_eq_true (by kernel_rfl))) rfl).2 (holds_val (hn 72 (of_decide_eq_true (by kernel_rfl))) rfl).2 hG.glob (hR _ (by simp [rulInts]))
theorem tx_57 (hR : ∀ x ∈ rulInts r, 0 ≤ x ∧ x ≤ 10000) {o : Oper} (ho : txOps[57]? = some o) (a : Act) (w : World) (hG : TxG w0 g r pv w) (hn : ∀ x ∈ txNeeds.getD 57 [], Holds (tabK w0.heap.size w0 (txKinds r g)) a w x) : Meets Tryz.prog (tabK w0.heap.size w0 (txKinds r g)) o a w := by
  have e := op_of (show (txOps[57]?).map (fun o => (o.op, o.dst)) = some (.buildSlice 64 2 #[(0, .const (.string ⟨#[70, 79, 76, 76, 79, 87, 79, 78]⟩)), (1, .tmp 73)], some 74) by kernel_rfl) ho
  exact k_strs2 e.1 e.2 rfl rfl (holds_val (hn 73 (of_decide_eq_true (by kernel_rfl))) rfl).2 hG.size
theorem tx_58 (hR : ∀ x ∈ rulInts r, 0 ≤ x ∧ x ≤ 10000) {o : Oper} (ho : txOps[58]? = some o) (a : Act) (w : World) (hG : TxG w0 g r pv w) (hn : ∀ x ∈ txNeeds.getD 58 [], Holds (tabK w0.heap.size w0 (txKinds r g)) a w x) : Meets Tryz.prog (tabK w0.heap.size w0 (txKinds r g)) o a w := by
  have e := op_of (show (txOps[58]?).map (fun o => (o.op, o.dst)) = some (.call { callee := .value (.func 51), args := #[.tmp 74], argTypes := #[64] }, some 75) by kernel_rfl) ho
  obtain ⟨v, h1, h2⟩ := (holds_strs (hn 74 (of_decide_eq_true (by kernel_rfl))) rfl)
  exact k_line e.1 e.2 rfl h1 h2 (by simp) hG.size
theorem tx_59 (hR : ∀ x ∈ rulInts r, 0 ≤ x ∧ x ≤ 10000) {o : Oper} (ho : txOps[59]? = some o) (a : Act) (w : World) (hG : TxG w0 g r pv w) (hn : ∀ x ∈ txNeeds.getD 59 [], Holds (tabK w0.heap.size w0 (txKinds r g)) a w x) : Meets Tryz.prog (tabK w0.heap.size w0 (txKinds r g)) o a w := by
  have e := op_of (show (txOps[59]?).map (fun o => (o.op, o.dst)) = some (.move (.tmp 5), some 76) by kernel_rfl) ho
  exact meets_move (.inl e.1) (tab_o e.2 rfl (by rw [(holds_val (hn 5 (of_decide_eq_true (by kernel_rfl))) rfl).2]; rfl))
theorem tx_60 (hR : ∀ x ∈ rulInts r, 0 ≤ x ∧ x ≤ 10000) {o : Oper} (ho : txOps[60]? = some o) (a : Act) (w : World) (hG : TxG w0 g r pv w) (hn : ∀ x ∈ txNeeds.getD 60 [], Holds (tabK w0.heap.size w0 (txKinds r g)) a w x) : Meets Tryz.prog (tabK w0.heap.size w0 (txKinds r g)) o a w := by
  have e := op_of (show (txOps[60]?).map (fun o => (o.op, o.dst)) = some (.fieldAddr 25 (.tmp 1) 11, some 77) by kernel_rfl) ho
  exact meets_field e.1 (holds_val (hn 1 (of_decide_eq_true (by kernel_rfl))) rfl).2 (fld_11 g w) (tab_o e.2 rfl rfl)
theorem tx_61 (hR : ∀ x ∈ rulInts r, 0 ≤ x ∧ x ≤ 10000) {o : Oper} (ho : txOps[61]? = some o) (a : Act) (w : World) (hG : TxG w0 g r pv w) (hn : ∀ x ∈ txNeeds.getD 61 [], Holds (tabK w0.heap.size w0 (txKinds r g)) a w x) : Meets Tryz.prog (tabK w0.heap.size w0 (txKinds r g)) o a w := by
  have e := op_of (show (txOps[61]?).map (fun o => (o.op, o.dst)) = some (.load 3 (.tmp 77), some 78) by kernel_rfl) ho
  exact meets_load e.1 (holds_val (hn 77 (of_decide_eq_true (by kernel_rfl))) rfl).2 (loadAt_cell (by kernel_rfl) ((hG.lies.blk.cell 11).trans rfl)) (tab_o e.2 rfl rfl)
theorem tx_62 (hR : ∀ x ∈ rulInts r, 0 ≤ x ∧ x ≤ 10000) {o : Oper} (ho : txOps[62]? = some o) (a : Act) (w : World) (hG : TxG w0 g r pv w) (hn : ∀ x ∈ txNeeds.getD 62 [], Holds (tabK w0.heap.size w0 (txKinds r g)) a w x) : Meets Tryz.prog (tabK w0.heap.size w0 (txKinds r g)) o a w := by
  have e := op_of (show (txOps[62]?).map (fun o => (o.op, o.dst)) = some (.call { callee := .value (.tmp 76), args := #[.tmp 78], argTypes := #[3] }, some 79) by kernel_rfl) ho
  exact k_dec e.1 e.2 rfl (holds_val (hn 76 (of_decide_eq_true (by kernel_rfl))) rfl).2 (holds_val (hn 78 (of_decide_eq_true (by kernel_rfl))) rfl).2 hG.glob (hR _ (by simp [rulInts]))
theorem tx_63 (hR : ∀ x ∈ rulInts r, 0 ≤ x ∧ x ≤ 10000) {o : Oper} (ho : txOps[63]? = some o) (a : Act) (w : World) (hG : TxG w0 g r pv w) (hn : ∀ x ∈ txNeeds.getD 63 [], Holds (tabK w0.heap.size w0 (txKinds r g)) a w x) : Meets Tryz.prog (tabK w0.heap.size w0 (txKinds r g)) o a w := by
  have e := op_of (show (txOps[63]?).map (fun o => (o.op, o.dst)) = some (.buildSlice 64 2 #[(0, .const (.string ⟨#[82, 69, 86, 73, 69, 87, 83]⟩)), (1, .tmp 79)], some 80) by kernel_rfl) ho
  exact k_strs2 e.1 e.2 rfl rfl (holds_val (hn 79 (of_decide_eq_true (by kernel_rfl))) rfl).2 hG.size
theorem tx_64 (hR : ∀ x ∈ rulInts r, 0 ≤ x ∧ x ≤ 10000) {o : Oper} (ho : txOps[64]? = some o) (a : Act) (w : World) (hG : TxG w0 g r pv w) (hn : ∀ x ∈ txNeeds.getD 64 [], Holds (tabK w0.heap.size w0 (txKinds r g)) a w x) : Meets Tryz.prog (tabK w0.heap.size w0 (txKinds r g)) o a w := by
  have e := op_of (show (txOps[64]?).map (fun o => (o.op, o.dst)) = some (.call { callee := .value (.func 51), args := #[.tmp 80], argTypes := #[64] }, some 81) by kernel_rfl) ho
  obtain ⟨v, h1, h2⟩ := (holds_strs (hn 80 (of_decide_eq_true (by kernel_rfl))) rfl)
  exact k_line e.1 e.2 rfl h1 h2 (by simp) hG.size
theorem tx_65 (hR : ∀ x ∈ rulInts r, 0 ≤ x ∧ x ≤ 10000) {o : Oper} (ho : txOps[65]? = some o) (a : Act) (w : World) (hG : TxG w0 g r pv w) (hn : ∀ x ∈ txNeeds.getD 65 [], Holds (tabK w0.heap.size w0 (txKinds r g)) a w x) : Meets Tryz.prog (tabK w0.heap.size w0 (txKinds r g)) o a w := by
  have e := op_of (show (txOps[65]?).map (fun o => (o.op, o.dst)) = some (.move (.tmp 5), some 82) by kernel_rfl) ho
  exact meets_move (.inl e.1) (tab_o e.2 rfl (by rw [(holds_val (hn 5 (of_decide_eq_true (by kernel_rfl))) rfl).2]; rfl))
theorem tx_66 (hR : ∀ x ∈ rulInts r, 0 ≤ x ∧ x ≤ 10000) {o : Oper} (ho : txOps[66]? = some o) (a : Act) (w : World) (hG : TxG w0 g r pv w) (hn : ∀ x ∈ txNeeds.getD 66 [], Holds (tabK w0.heap.size w0 (txKinds r g)) a w x) : Meets Tryz.prog (tabK w0.heap.size w0 (txKinds r g)) o a w := by
  have e := op_of (show (txOps[66]?).map (fun o => (o.op, o.dst)) = some (.fieldAddr 25 (.tmp 1) 12, some 83) by kernel_rfl) ho
  exact meets_field e.1 (holds_val (hn 1 (of_decide_eq_true (by kernel_rfl))) rfl).2 (fld_12 g w) (tab_o e.2 rfl rfl)
theorem tx_67 (hR : ∀ x ∈ rulInts r, 0 ≤ x ∧ x ≤ 10000) {o : Oper} (ho : txOps[67]? = some o) (a : Act) (w : World) (hG : TxG w0 g r pv w) (hn : ∀ x ∈ txNeeds.getD 67 [], Holds (tabK w0.heap.size w0 (txKinds r g)) a w x) : Meets Tryz.prog (tabK w0.heap.size w0 (txKinds r g)) o a w := by
  have e := op_of (show (txOps[67]?).map (fun o => (o.op, o.dst)) = some (.load 3 (.tmp 83), some 84) by kernel_rfl) ho
  exact meets_load e.1 (holds_val (hn 83 (of_decide_eq_true (by kernel_rfl))) rfl).2 (loadAt_cell (by kernel_rfl) ((hG.lies.blk.cell 12).trans rfl)) (tab_o e.2 rfl rfl)
theorem tx_68 (hR : ∀ x ∈ rulInts r, 0 ≤ x ∧ x ≤ 10000) {o : Oper} (ho : txOps[68]? = some o) (a : Act) (w : World) (hG : TxG w0 g r pv w) (hn : ∀ x ∈ txNeeds.getD 68 [], Holds (tabK w0.heap.size w0 (txKinds r g)) a w x) : Meets Tryz.prog (tabK w0.heap.size w0 (txKinds r g)) o a w := by
  have e := op_of (show (txOps[68]?).map (fun o => (o.op, o.dst)) = some (.call { callee := .value (.tmp 82), args := #[.tmp 84], argTypes := #[3] }, some 85) by kernel_rfl) ho
  exact k_dec e.1 e.2 rfl (holds_val (hn 82 (of_decide_eq_true (by kernel_rfl))) rfl).2 (holds_val (hn 84 (of_decide_eq_true (by kernel_rfl))) rfl).2 hG.glob (hR _ (by simp [rulInts]))
theorem tx_69 (hR : ∀ x ∈ rulInts r, 0 ≤ x ∧ x ≤ 10000) {o : Oper} (ho : txOps[69]? = some o) (a : Act) (w : World) (hG : TxG w0 g r pv w) (hn : ∀ x ∈ txNeeds.getD 69 [], Holds (tabK w0.heap.size w0 (txKinds r g)) a w x) : Meets Tryz.prog (tabK w0.heap.size w0 (txKinds r g)) o a w := by
  have e := op_of (show (txOps[69]?).map (fun o => (o.op, o.dst)) = some (.buildSlice 64 2 #[(0, .const (.string ⟨#[79, 85, 84, 83, 73, 68, 69]⟩)), (1, .tmp 85)], some 86) by kernel_rfl) ho
  exact k_strs2 e.1 e.2 rfl rfl (holds_val (hn 85 (of_decide_eq_true (by kernel_rfl))) rfl).2 hG.size
theorem tx_70 (hR : ∀ x ∈ rulInts r, 0 ≤ x ∧ x ≤ 10000) {o : Oper} (ho : txOps[70]? = some o) (a : Act) (w : World) (hG : TxG w0 g r pv w) (hn : ∀ x ∈ txNeeds.getD 70 [], Holds (tabK w0.heap.size w0 (txKinds r g)) a w x) : Meets Tryz.prog (tabK w0.heap.size w0 (txKinds r g)) o a w := by
  have e := op_of (show (txOps[70]?).map (fun o => (o.op, o.dst)) = some (.call { callee := .value (.func 51), args := #[.tmp 86], argTypes := #[64] }, some 87) by kernel_rfl) ho
  obtain ⟨v, h1, h2⟩ := (holds_strs (hn 86 (of_decide_eq_true (by kernel_rfl))) rfl)
  exact k_line e.1 e.2 rfl h1 h2 (by simp) hG.size
theorem tx_71 (hR : ∀ x ∈ rulInts r, 0 ≤ x ∧ x ≤ 10000) {o : Oper} (ho : txOps[71]? = some o) (a : Act) (w : World) (hG : TxG w0 g r pv w) (hn : ∀ x ∈ txNeeds.getD 71 [], Holds (tabK w0.heap.size w0 (txKinds r g)) a w x) : Meets Tryz.prog (tabK w0.heap.size w0 (txKinds r g)) o a w := by
  have e := op_of (show (txOps[71]?).map (fun o => (o.op, o.dst)) = some (.buildSlice 51 12 #[(0, .tmp 20), (1, .tmp 26), (2, .tmp 32), (3, .tmp 38), (4, .tmp 44), (5, .tmp 50), (6, .tmp 60), (7, .tmp 63), (8, .tmp 69), (9, .tmp 75), (10, .tmp 81), (11, .tmp 87)], some 88) by kernel_rfl) ho
  obtain ⟨A0, n0, c0, a0, b0⟩ := (holds_line (hn 20 (of_decide_eq_true (by kernel_rfl))) rfl)
  obtain ⟨A1, n1, c1, a1, b1⟩ := (holds_line (hn 26 (of_decide_eq_true (by kernel_rfl))) rfl)
  obtain ⟨A2, n2, c2, a2, b2⟩ := (holds_line (hn 32 (of_decide_eq_true (by kernel_rfl))) rfl)
  obtain ⟨A3, n3, c3, a3, b3⟩ := (holds_line (hn 38 (of_decide_eq_true (by kernel_rfl))) rfl)
  obtain ⟨A4, n4, c4, a4, b4⟩ := (holds_line (hn 44 (of_decide_eq_true (by kernel_rfl))) rfl)
  obtain ⟨A5, n5, c5, a5, b5⟩ := (holds_line (hn 50 (of_decide_eq_true (by kernel_rfl))) rfl)
  obtain ⟨A6, n6, c6, a6, b6⟩ := (holds_line (hn 60 (of_decide_eq_true (by kernel_rfl))) rfl)
  obtain ⟨A7, n7, c7, a7, b7⟩ := (holds_line (hn 63 (of_decide_eq_true (by kernel_rfl))) rfl)
  obtain ⟨A8, n8, c8, a8, b8⟩ := (holds_line (hn 69 (of_decide_eq_true (by kernel_rfl))) rfl)
  obtain ⟨A9, n9, c9, a9, b9⟩ := (holds_line (hn 75 (of_decide_eq_true (by kernel_rfl))) rfl)
  obtain ⟨A10, n10, c10, a10, b10⟩ := (holds_line (hn 81 (of_decide_eq_true (by kernel_rfl))) rfl)
  obtain ⟨A11, n11, c11, a11, b11⟩ := (holds_line (hn 87 (of_decide_eq_true (by kernel_rfl))) rfl)
  exact k_rows e.1 e.2 rfl hG.size hG.bel a0 b0 a1 b1 a2 b2 a3 b3 a4 b4 a5 b5 a6 b6 a7 b7 a8 b8 a9 b9 a10 b10 a11 b11
theorem tx_72 (hR : ∀ x ∈ rulInts r, 0 ≤ x ∧ x ≤ 10000) {o : Oper} (ho : txOps[72]? = some o) (a : Act) (w : World) (hG : TxG w0 g r pv w) (hn : ∀ x ∈ txNeeds.getD 72 [], Holds (tabK w0.heap.size w0 (txKinds r g)) a w x) : Meets Tryz.prog (tabK w0.heap.size w0 (txKinds r g)) o a w := by
  have e := op_of (show (txOps[72]?).map (fun o => (o.op, o.dst)) = some (.assign (.tmp 88), some 7) by kernel_rfl) ho
  obtain ⟨v, h1, h2⟩ := (holds_rows (hn 88 (of_decide_eq_true (by kernel_rfl))) rfl)
  exact meets_move (.inr e.1) (tab_o e.2 rfl (by rw [eval_tmp h1]; exact h2))
theorem tx_free (hR : ∀ x ∈ rulInts r, 0 ≤ x ∧ x ≤ 10000) : FreeR Tryz.prog txOps (tabK w0.heap.size w0 (txKinds r g)) (TxG w0 g r pv) (fun i => txNeeds.getD i []) [1, 5, 6] 116 where
  back := back_of (by kernel_rfl)
  dst := dst_of (by kernel_rfl)
  need := need_of (by kernel_rfl)
  sV := tab_below
  sG := fun w w' h hb => h.below hb
  step := fun i o ho a w hG hn => by
    have hlt : i < 73 := (Array.getElem?_eq_some_iff.1 ho).1
    match i, hlt with
    | 0, _ => exact tx_0 hR ho a w hG hn
    | 1, _ => exact tx_1 hR ho a w hG hn
    | 2, _ => exact tx_2 hR ho a w hG hn
    | 3, _ => exact tx_3 hR ho a w hG hn
    | 4, _ => exact tx_4 hR ho a w hG hn
    | 5, _ => exact tx_5 hR ho a w hG hn
    | 6, _ => exact tx_6 hR ho a w hG hn
    | 7, _ => exact tx_7 hR ho a w hG hn
    | 8, _ => exact tx_8 hR ho a w hG hn
    | 9, _ => exact tx_9 hR ho a w hG hn
    | 10, _ => exact tx_10 hR ho a w hG hn
    | 11, _ => exact tx_11 hR ho a w hG hn
    | 12, _ => exact tx_12 hR ho a w hG hn
    | 13, _ => exact tx_13 hR ho a w hG hn
    | 14, _ => exact tx_14 hR ho a w hG hn
    | 15, _ => exact tx_15 hR ho a w hG hn
    | 16, _ => exact tx_16 hR ho a w hG hn
    | 17, _ => exact tx_17 hR ho a w hG hn
    | 18, _ => exact tx_18 hR ho a w hG hn
    | 19, _ => exact tx_19 hR ho a w hG hn
    | 20, _ => exact tx_20 hR ho a w hG hn
    | 21, _ => exact tx_21 hR ho a w hG hn
    | 22, _ => exact tx_22 hR ho a w hG hn
    | 23, _ => exact tx_23 hR ho a w hG hn
    | 24, _ => exact tx_24 hR ho a w hG hn
    | 25, _ => exact tx_25 hR ho a w hG hn
    | 26, _ => exact tx_26 hR ho a w hG hn
    | 27, _ => exact tx_27 hR ho a w hG hn
    | 28, _ => exact tx_28 hR ho a w hG hn
    | 29, _ => exact tx_29 hR ho a w hG hn
    | 30, _ => exact tx_30 hR ho a w hG hn
    | 31, _ => exact tx_31 hR ho a w hG hn
    | 32, _ => exact tx_32 hR ho a w hG hn
    | 33, _ => exact tx_33 hR ho a w hG hn
    | 34, _ => exact tx_34 hR ho a w hG hn
    | 35, _ => exact tx_35 hR ho a w hG hn
    | 36, _ => exact tx_36 hR ho a w hG hn
    | 37, _ => exact tx_37 hR ho a w hG hn
    | 38, _ => exact tx_38 hR ho a w hG hn
    | 39, _ => exact tx_39 hR ho a w hG hn
    | 40, _ => exact tx_40 hR ho a w hG hn
    | 41, _ => exact tx_41 hR ho a w hG hn
    | 42, _ => exact tx_42 hR ho a w hG hn
    | 43, _ => exact tx_43 hR ho a w hG hn
    | 44, _ => exact tx_44 hR ho a w hG hn
    | 45, _ => exact tx_45 hR ho a w hG hn
    | 46, _ => exact tx_46 hR ho a w hG hn
    | 47, _ => exact tx_47 hR ho a w hG hn
    | 48, _ => exact tx_48 hR ho a w hG hn
    | 49, _ => exact tx_49 hR ho a w hG hn
    | 50, _ => exact tx_50 hR ho a w hG hn
    | 51, _ => exact tx_51 hR ho a w hG hn
    | 52, _ => exact tx_52 hR ho a w hG hn
    | 53, _ => exact tx_53 hR ho a w hG hn
    | 54, _ => exact tx_54 hR ho a w hG hn
    | 55, _ => exact tx_55 hR ho a w hG hn
    | 56, _ => exact tx_56 hR ho a w hG hn
    | 57, _ => exact tx_57 hR ho a w hG hn
    | 58, _ => exact tx_58 hR ho a w hG hn
    | 59, _ => exact tx_59 hR ho a w hG hn
    | 60, _ => exact tx_60 hR ho a w hG hn
    | 61, _ => exact tx_61 hR ho a w hG hn
    | 62, _ => exact tx_62 hR ho a w hG hn
    | 63, _ => exact tx_63 hR ho a w hG hn
    | 64, _ => exact tx_64 hR ho a w hG hn
    | 65, _ => exact tx_65 hR ho a w hG hn
    | 66, _ => exact tx_66 hR ho a w hG hn
    | 67, _ => exact tx_67 hR ho a w hG hn
    | 68, _ => exact tx_68 hR ho a w hG hn
    | 69, _ => exact tx_69 hR ho a w hG hn
    | 70, _ => exact tx_70 hR ho a w hG hn
    | 71, _ => exact tx_71 hR ho a w hG hn
    | 72, _ => exact tx_72 hR ho a w hG hn
end
end Go.Proofs.YtglkejlimeakbaaGreatDoor

namespace Go.Proofs.YtglkejlimeakbaaGreatDoor
open Go.RowKit

theorem drew_two (w : World) (n m : Nat) : ∃ k, (w.drewN n).drewN m = w.drewN k := ⟨n + m, by simp [World.drewN, Nat.add_assoc]⟩
set_option maxRecDepth 100000 in
set_option maxHeartbeats 2000000 in
theorem pha_Equal (l m : List Pha) (v v' : Value) (F F' : Nat → Prop) (w : World) (h : Sl 3 elPha w F v l) (h' : Sl 3 elPha w F' v' m) :
    Calls Tryz.prog 54 #[v, v'] w fun e w' => e = .returned (.bool (eqPhas l m)) ∧ ∃ n, w' = w.drewN n := by
  obtain ⟨z, hz⟩ : ∃ z, z = eqPhas l m := ⟨_, rfl⟩
  rw [← hz]
  obtain ⟨A, c, rfl, hc, hc2⟩ := Sl.shape h
  obtain ⟨A', c', rfl, hc', hc2'⟩ := Sl.shape h'
  have H := Lib.hid h
  have H' := Lib.hid h'
  clear h h'
  by_cases hlen : l.length = m.length
  · have HZ := Lib.hid hz
    have e1 : ((l.length : Int) != (m.length : Int)) = false := by simp [hlen]
    have HLEN := Lib.hid hlen
    clear hz hlen
    go_enter Tryz.func54, Tryz.ntmps54
    go_wp2
    go_loopw [13] (fun i wr => ∃ k : Nat, k ≤ l.length ∧ i = .int .i64 k ∧ (∃ n, wr = w.drewN n) ∧ Hid (z = eqPhas (l.drop k) (m.drop k))) (fun i _ => l.length - (intOf i).toNat)
    case atStart => exact ⟨0, Nat.zero_le _, rfl, ⟨0, rfl⟩, HZ.out⟩
    case round =>
      obtain ⟨k, hk, rfl, ⟨n, rfl⟩, hzz⟩ := hrel
      by_cases hlt : k < l.length
      · have hlt' : k < m.length := by rw [← HLEN.out]; exact hlt
        obtain ⟨b, o, rfl, hbl, y0, y1, y2⟩ := pha_at H.out hlt
        obtain ⟨b', o', rfl, hbl', q0, q1, q2⟩ := pha_at H'.out hlt'
        have hzz' := hzz.out
        rw [eqPhas_at hlt hlt'] at hzz'
        obtain ⟨⟨pf, pt, po⟩, hp⟩ : ∃ p, p = l[k] := ⟨_, rfl⟩
        obtain ⟨⟨qf, qt, qo⟩, hq⟩ : ∃ p, p = m[k] := ⟨_, rfl⟩
        rw [← hp] at y0 y1 y2 hzz'
        rw [← hq] at q0 q1 q2 hzz'
        unfold eqPha at hzz'
        dsimp only at y0 y1 y2 q0 q1 q2 hzz'
        rcases boor (pf == qf) with g1 | g1
        · rcases boor (pt == qt) with g2 | g2
          · rcases boor (po == qo) with g3 | g3
            · rw [g1, g2, g3, Bool.and_self, Bool.and_self, Bool.true_and] at hzz'
              have HZZ := Lib.hid hzz'
              clear hzz hzz' hp hq
              go_wp2
              go_quiet (fail)
              go_wp2
              go_roundw
              case rel => exact ⟨k + 1, by omega, by go_num, ⟨_, rfl⟩, HZZ.out⟩
              case measure => simp [intOf]; omega
            · rw [g1, g2, g3, Bool.and_false, Bool.false_and] at hzz'
              have HZZ := Lib.hid hzz'
              clear hzz hzz' hp hq
              go_wp2
              go_quiet (fail)
              go_wp2
              go_ret
              exact ⟨ret_b HZZ.out.symm, drew_two _ _ _⟩
          · rw [g1, g2, Bool.and_false, Bool.false_and, Bool.false_and] at hzz'
            have HZZ := Lib.hid hzz'
            clear hzz hzz' hp hq
            go_wp2
            go_quiet (fail)
            go_wp2
            go_ret
            exact ⟨ret_b HZZ.out.symm, drew_two _ _ _⟩
        · rw [g1, Bool.false_and, Bool.false_and, Bool.false_and] at hzz'
          have HZZ := Lib.hid hzz'
          clear hzz hzz' hp hq
          go_wp2
          go_quiet (fail)
          go_wp2
          go_ret
          exact ⟨ret_b HZZ.out.symm, drew_two _ _ _⟩
      · have hke : k = l.length := by omega
        have hzz' := hzz.out
        rw [List.drop_of_length_le (by omega), List.drop_of_length_le (by rw [← HLEN.out]; omega)] at hzz'
        have HZZ := Lib.hid hzz'
        clear hzz hzz' hke
        go_wp2
        go_ret
        exact ⟨ret_b HZZ.out.symm, _, rfl⟩
  · rw [eqPhas_len hlen] at hz
    have HZ := Lib.hid hz
    have e1 : ((l.length : Int) != (m.length : Int)) = true := by simp; omega
    clear hz hlen
    go_enter Tryz.func54, Tryz.ntmps54
    go_wp2
    go_ret
    exact ⟨ret_b HZ.out.symm, 0, rfl⟩

def numsV (r : Rul) : Value := .agg #[.int .i64 r.side, .int .i64 r.inns, .int .i64 r.overs, .int .i64 r.balls, .int .i64 r.quota, .int .i64 r.wide, .int .i64 r.noball, .int .i64 r.newball, .int .i64 r.follow, .int .i64 r.reviews, .int .i64 r.outside]
set_option maxRecDepth 100000 in
set_option maxHeartbeats 2000000 in
theorem rul_numbers (r : Rul) (pv : Value) (w : World) : Calls Tryz.prog 53 #[rulV r pv] w fun e w' => e = .returned (numsV r) ∧ Below w.heap.size w w' := by
  unfold rulV rulCells numsV
  have hb : ∀ o1 o2, Below w.heap.size w ((w.alloc o1).alloc o2) := fun o1 o2 => Below.alloc (Below.alloc (Below.refl _ _) (Nat.le_refl _) _) (by simp) _
  have HB := Lib.hid hb
  clear hb
  go_enter Tryz.func53, Tryz.ntmps53
  go_wp2
  refine bodyPost_ret (v := .agg #[.int .i64 r.side, .int .i64 r.inns, .int .i64 r.overs, .int .i64 r.balls, .int .i64 r.quota, .int .i64 r.wide, .int .i64 r.noball, .int .i64 r.newball, .int .i64 r.follow, .int .i64 r.reviews, .int .i64 r.outside]) (by simp [results, Tryz.results53, go_sem]) rfl ⟨rfl, HB.out _ _⟩
end Go.Proofs.YtglkejlimeakbaaGreatDoor

namespace Go.Proofs.YtglkejlimeakbaaGreatDoor
open Go.RowKit

/-- append of one element onto a row whose elements reach elsewhere, as a step of a region that draws. -/
theorem step_append_gl {P : Program} {ops : Array Oper} {o : Oper} {a : Act} {w : World} {K : Act → World → Prop} {Q : Exit → Act → World → Prop} {E : Prop} (hgd : o.guard = none) (s x : Operand) (t : TypeId)
    (ho : o.op = .call { callee := .builtin .append, args := #[s, x], argTypes := #[t, t] })
    {e : TypeId} {size bytes : Nat} (hE : ElemOf P t e size bytes) {α : Type} {R : World → (Nat → Prop) → List Value → α → Prop} (hR : Good R)
    (base : Nat) (v : Value) (G : Nat → Prop) (l : List α) (hs : a.eval s = v) (hown : OwnG size R e base w v G l)
    (ad : Addr) (c : Nat) (cs : List Value) (hx : a.eval x = .slice (some ad) 1 c) (el : α) (hl : cs.length = size) (hcell : ∀ j u, cs[j]? = some u → w.cell? (ad.add j) = some u)
    (h1 : ∀ u ∈ cs, u.oneCell' = true) (hG : ∀ b, G b → b < w.heap.size ∧ v.ownBlock ≠ some b) (hel : R w G cs el)
    (h63 : l.length + 1 ≤ maxLen) (hbytes : (l.length + 1) * bytes ≤ 140737488355328) (hbase : base ≤ w.heap.size)
    (h : ∀ g cap w', OwnG size R e base w' (.slice (some ⟨g, 0, none⟩) (l.length + 1) cap) G (l ++ [el]) → w.grownBy w' v.ownBlock → (some g = v.ownBlock ∨ g = w.heap.size) → K (a.put o.dst (.slice (some ⟨g, 0, none⟩) (l.length + 1) cap)) w') :
    if Region.wanted o (yielded ops a.tmps) = true then Oper.wp P o a w K Q else E := by
  have hw : Region.wanted o (yielded ops a.tmps) = true := by simp [Region.wanted, hgd]
  rw [if_pos hw]
  obtain ⟨i, z, e1, e2, e3, e4, e5, e6, e7⟩ := hE
  obtain ⟨css, hlen, ho', hsz, hel'⟩ := hown
  obtain ⟨v', w', hr, h2, h3, _, h4⟩ := run_append_own_at (P := P) w base t o.type e i z size bytes e1 e2 e3 e4 e5 e6 e7 v l.length css.flatten ho' ad 1 c cs (by omega) hcell h1 h63 hbytes hbase
  unfold Oper.wp execOp
  simp only [ho, resolve, invoke, builtin, Sem.run_bind, Sem.run_pure, Result.andThen_ok, List.map_toArray, List.map_cons, List.map_nil, hs, hx, hr]
  have hnew : OwnG size R e base w' v' G (l ++ [el]) := OwnG.snoc hR hlen hsz hel' h2 (Same.grown h3 fun b hb => ⟨(hG b hb).1, fun e => (hG b hb).2 e.symm⟩) hl hel
  obtain ⟨xs, _, ⟨_, h0⟩ | ⟨g, cap, cur, rfl, _⟩⟩ := hnew.owns
  · simp at h0
  · simp only [List.length_append, List.length_cons, List.length_nil, Nat.zero_add] at h4 hnew ⊢
    refine h g cap w' hnew h3 ?_
    rcases h4 with h4 | h4
    · exact .inl h4
    · exact .inr (by simpa [Value.ownBlock] using h4)
/-- The lines so far, and the powerplay at hand in a block of its own. -/
structure PowAt (w0 W : World) (v : Value) (out : List Lin) (bx : Nat) (p : Pha) : Prop where
  inv : SplitInv w0.heap.size w0 W v noD out []
  blk : Blk W bx 72 #[.int .i64 p.fr, .int .i64 p.til, .int .i64 p.out]
section
variable {w0 W W' : World} {v : Value} {out : List Lin} {bx : Nat} {p : Pha} {A : Option Addr} {n c : Nat}
theorem PowAt.below (h : PowAt w0 W v out bx p) (hb : Below W.heap.size W W') : PowAt w0 W' v out bx p := ⟨h.inv.below hb, h.blk.below hb h.blk.lt⟩
theorem PowAt.drew (h : PowAt w0 W v out bx p) : PowAt w0 W.drew v out bx p := h.below (Below.drew (Below.refl _ _))
theorem PowAt.cells (h : PowAt w0 W v out bx p) : W.cell? ⟨bx, 0, none⟩ = some (.int .i64 p.fr) ∧ W.cell? ⟨bx, 1, none⟩ = some (.int .i64 p.til) ∧ W.cell? ⟨bx, 2, none⟩ = some (.int .i64 p.out) := ⟨h.blk.cell 0, h.blk.cell 1, h.blk.cell 2⟩
theorem PowAt.new {wr : World} (h : SplitInv w0.heap.size w0 wr v noD out []) (p : Pha) : PowAt w0 (wr.alloc (.cells #[.int .i64 p.fr, .int .i64 p.til, .int .i64 p.out] 72)) v out wr.heap.size p :=
  ⟨h.below (Below.alloc (Below.refl _ _) (Nat.le_refl _) _), Blk.new wr _ _⟩
/-- The words of a powerplay's line, just laid. -/
theorem PowAt.words (h : PowAt w0 W v out bx p) (l : List (List UInt8)) (hm : l.length ≤ maxLen) : PowAt w0 (W.alloc (.cells (l.map fun s => Value.string (S s)).toArray 9)) v out bx p ∧
    Sl 1 elStr (W.alloc (.cells (l.map fun s => Value.string (S s)).toArray 9)) (· < (W.alloc (.cells (l.map fun s => Value.string (S s)).toArray 9)).heap.size) (.slice (some ⟨W.heap.size, 0, none⟩) l.length l.length) l :=
  ⟨h.below (Below.alloc (Below.refl _ _) (Nat.le_refl _) _), (strs_lit W 0 (Nat.zero_le _) l 9 hm).keep elStr_good (Same.refl _ _) fun b hb => hb.2⟩
/-- The line of a powerplay, made. -/
def LineAt (w0 W : World) (v : Value) (out : List Lin) (bx : Nat) (p : Pha) (A : Option Addr) (n c : Nat) : Prop :=
  PowAt w0 W v out bx p ∧ ∀ o, elLin (W.alloc o) (lineG w0.heap.size (W.alloc o) v noD) [.int .i64 0, .slice A n c] (powLine p)
theorem LineAt.row (h : LineAt w0 W v out bx p A n c) (o : Obj) : OwnG 2 elLin 56 w0.heap.size (W.alloc o) v (lineG w0.heap.size (W.alloc o) v noD) out := (h.1.inv.below (Below.alloc (Below.refl _ _) (Nat.le_refl _) o)).hv
theorem LineAt.app {o : Obj} {g6 cap6 : Nat} (h : LineAt w0 W v out bx p A n c) (ho : OwnG 2 elLin 56 w0.heap.size W' (.slice (some ⟨g6, 0, none⟩) (out.length + 1) cap6) (lineG w0.heap.size (W.alloc o) v noD) (out ++ [powLine p]))
    (hg : (W.alloc o).grownBy W' v.ownBlock) (hat : some g6 = v.ownBlock ∨ g6 = (W.alloc o).heap.size) : PowAt w0 W' (.slice (some ⟨g6, 0, none⟩) (out.length + 1) cap6) (out ++ [powLine p]) bx p := by
  have h1 := h.1.below (Below.alloc (Below.refl _ _) (Nat.le_refl _) o)
  have hi := h1.inv.line ho hg (by rcases hat with e | e; exact .inl e; exact .inr (by rw [← e]; rfl))
  exact ⟨hi, h1.blk.grown hg (own_ne h1.inv.hv h1.blk (by decide))⟩
end
theorem pow_dec (n : Int) (h0 : 0 ≤ n) (h1 : n ≤ 10000) {w0 W : World} {v : Value} {out : List Lin} {bx : Nat} {p : Pha} (hg : GlobN w0) (h : PowAt w0 W v out bx p) :
    Calls Tryz.prog 50 #[.int .i64 n] W fun e w' => e = .returned (.string (S (decW n))) ∧ PowAt w0 w' v out bx p := by
  refine (text1_contract n W (hg.below h.inv.hb) h0 h1).mono ?_
  rintro e w' ⟨rfl, hb⟩
  exact ⟨rfl, h.below hb⟩
theorem pow_line (a b c : List UInt8) {w0 W : World} {v : Value} {out : List Lin} {bx : Nat} {p : Pha} (h : PowAt w0 W v out bx p) (he : lineR [kPOWER, a, b, c] = powLine p) :
    Calls Tryz.prog 51 #[.slice (some ⟨W.heap.size, 0, none⟩) 4 4] (W.alloc (.cells #[.string ⟨#[80, 79, 87, 69, 82]⟩, .string (S a), .string (S b), .string (S c)] 9)) fun e w' => ∃ A n c, e = .returned (.agg #[.int .i64 0, .slice A n c]) ∧ LineAt w0 w' v out bx p A n c := by
  obtain ⟨h1, h2⟩ := h.words [kPOWER, a, b, c] (by simp [maxLen])
  refine (rul_line [kPOWER, a, b, c] _ _ _ h2 (fun b hb => hb) (by simp)).mono ?_
  rintro e w' ⟨A, n, c', rfl, hs, hb⟩
  refine ⟨A, n, c', rfl, h1.below hb, fun o => ?_⟩
  rw [← he]
  exact h1.inv.fields_el hb hs o
theorem rows_sl {B : Nat} {w0 wr : World} {v : Value} {out : List Lin} (h : SplitInv B w0 wr v noD out []) : Sl 2 elLin wr (· < wr.heap.size) v out := h.hv.sl elLin_good (fun b hb => hb.2.1) fun b _ h => h
theorem write_rows {r : Rul} {w0 wr : World} {v : Value} {out : List Lin} (h : SplitInv w0.heap.size w0 wr v noD out []) (ho : out = rulLines r) (hg : GlobN wr) (hl : (writeS (rulLines r)).length ≤ 1700) :
    Calls Tryz.prog 46 #[v] wr fun e w' => e = .returned (.string (S (writeS (rulLines r)))) ∧ Below wr.heap.size wr w' := by
  rw [← ho] at hl ⊢
  exact text_Write v out wr hg.glob (rows_sl h) (Nat.le_trans hl (by decide))
theorem pow_drop {ps : List Pha} {k : Nat} (h : k < ps.length) : (ps.drop k).map powLine = powLine ps[k] :: (ps.drop (k + 1)).map powLine := by rw [List.drop_eq_getElem_cons h, List.map_cons]
set_option maxRecDepth 100000 in
set_option maxHeartbeats 4000000 in
theorem rul_Text (r : Rul) (pv : Value) (w : World) (hg : GlobN w) (h : Sl 3 elPha w (· < w.heap.size) pv r.power) (hn : r.name.length ≤ 1000000000) :
    Calls Tryz.prog 19 #[rulV r pv] w (TextPost w (textR r)) := by
  obtain ⟨res, hres⟩ : ∃ x, x = textR r := ⟨_, rfl⟩
  rw [← hres]
  obtain ⟨A, c, rfl, hc, hc2⟩ := h.shape
  have hA := RulAt.new h
  have hb0 : Below w.heap.size w (w.alloc (.cells (rulCells r (.slice A r.power.length c)) 25)) := Below.alloc (Below.refl _ _) (Nat.le_refl _) _
  obtain ⟨W, hW⟩ : ∃ W, W = w.alloc (.cells (rulCells r (.slice A r.power.length c)) 25) := ⟨_, rfl⟩
  rw [← hW] at hA hb0
  have kc : Calls Tryz.prog 28 #[rulV r (.slice A r.power.length c)] W fun e w' => e = .returned (.int .i64 (checkR r)) ∧ Below w.heap.size w w' ∧ RulAt w' w.heap.size r (.slice A r.power.length c) := by
    refine (rul_Check r _ W hA.sl hn).mono ?_
    rintro e w' ⟨rfl, hb⟩
    exact ⟨rfl, hb0.trans (hb.mono hb0.size), hA.below hb⟩
  rw [hW] at kc
  by_cases hc0 : checkR r = 0
  · have hres' : res = (writeS (rulLines r), 0) := by rw [hres, textR_ok hc0]
    have hR := rulInts_ok hc0
    have hl := rulText_len hc0
    obtain ⟨_, _, h8, hsm⟩ := checkR_ok hc0
    rw [hc0] at kc
    unfold rulV rulCells at kc
    have KC := Lib.hid kc
    have HR := Lib.hid hR
    have HRES := Lib.hid hres'
    have HG := Lib.hid hg
    have HL := Lib.hid hl
    have HSM := Lib.hid hsm
    clear kc hR hres' hres hg hl hsm hA h hb0 hc0 hn hW
    clear W
    unfold rulV rulCells
    go_enter Tryz.func19, Tryz.ntmps19
    go_wp2_with (go_at_call 28; refine KC.out.mono ?_; rintro e w1 ⟨rfl, hb1, hr1⟩; have x8 : w1.cell? ⟨w.heap.size, 8, none⟩ = some (.bool r.free) := hr1.blk.cell 8; have HB1 := Lib.hid hb1; have HR1 := Lib.hid hr1; clear hb1 hr1)
    all_goals
      refine wp_region_at (by kernel_rfl : _ = txOps) (by kernel_rfl) (tx_free (g := w.heap.size) (pv := .slice A r.power.length c) HR.out) (of_decide_eq_true (by kernel_rfl)) ⟨⟨HR1.out, Below.refl _ _⟩, HG.out.below HB1.out⟩ (fun d hd => ?_) ?_
      · simp only [List.mem_cons, List.not_mem_nil, or_false] at hd
        rcases hd with rfl | rfl | rfl
        · exact ⟨_, rfl, rfl⟩
        · exact ⟨_, rfl, rfl⟩
        · refine ⟨_, rfl, ?_⟩
          show _ = Value.string (S (freeW r.free))
          first | (rw [show r.free = true by assumption]; rfl) | (rw [show r.free = false by simp_all]; rfl)
      · rintro ⟨⟨l⟩, df⟩ wx hin
        obtain ⟨v7, hv7, hs7⟩ := holds_rows (hin.at 72 7 (by kernel_rfl)) rfl
        have hk1 := hin.kept 1 (by kernel_rfl)
        have hk5 := hin.kept 5 (by kernel_rfl)
        have hsz : l.length = 116 := hin.size
        have hdf : df = [] := hin.dfr
        have hgx := hin.g
        have HS7 := Lib.hid hs7
        have HGX := Lib.hid hgx
        clear hin hs7 hgx
        subst hdf
        dsimp only at hv7 hk1 hk5
        iterate 116 (obtain ⟨_, t, e, h2⟩ := list_cons hsz; clear hsz; subst e; have hsz := h2; clear h2)
        have e0 := List.eq_nil_of_length_eq_zero hsz
        clear hsz
        subst e0
        simp only [List.getElem?_toArray, List.getElem?_cons_zero, List.getElem?_cons_succ, Option.some.injEq] at hv7 hk1 hk5
        subst hv7 hk1 hk5
        clear x8
        obtain ⟨Av, cv, rfl, _, _⟩ := (HS7.out.hv.sl elLin_good (F := (· < wx.heap.size)) (fun b hb => hb.2.1) fun b _ h => h).shape
        have x13 : wx.cell? ⟨w.heap.size, 13, none⟩ = some (.slice A r.power.length c) := HGX.out.lies.blk.cell 13
        have HBX := Lib.hid (HB1.out.trans (HS7.out.hb.mono HB1.out.size))
        go_wp2
        go_loopw [7, 92] (fun v i wr => ∃ (k : Nat) (out : List Lin), k ≤ r.power.length ∧ i = .int .i64 k ∧ SplitInv w1.heap.size w1 wr v noD out [] ∧ Hid (out ++ (r.power.drop k).map powLine = rulLines r) ∧ Hid (out.length = 12 + k) ∧ (∃ A n c, v = .slice A n c))
          (fun _ i _ => r.power.length - (intOf i).toNat)
        case atStart => exact ⟨0, _, Nat.zero_le _, rfl, HS7.out, by unfold Hid; rfl, by unfold Hid; rfl, ⟨_, _, _, rfl⟩⟩
        case round =>
          obtain ⟨k, out, hk, rfl, hinv, hqk, hol, ⟨Au, nu, cu, rfl⟩⟩ := hrel
          have HI := Lib.hid hinv
          have HBR := Lib.hid (HB1.out.trans (hinv.hb.mono HB1.out.size))
          have HGR := Lib.hid (HG.out.below HBR.out)
          have HG1 := Lib.hid (HG.out.below HB1.out)
          have HRR := Lib.hid (HR1.out.below hinv.hb)
          have hol20 : out.length ≤ 20 := by have := hol.out; omega
          clear hinv
          by_cases hlt : k < r.power.length
          · obtain ⟨b, o, rfl, hF, y0, y1, y2⟩ := pha_at HRR.out.sl hlt
            have hqk' := hqk.out
            rw [pow_drop hlt] at hqk'
            have hp0 := HSM.out _ (List.getElem_mem hlt)
            obtain ⟨⟨pf, pt, po⟩, hp⟩ : ∃ p, p = r.power[k] := ⟨_, rfl⟩
            rw [← hp] at y0 y1 y2 hqk' hp0
            obtain ⟨s1, s2, s3, s4, s5, s6⟩ := hp0
            dsimp only at y0 y1 y2 s1 s2 s3 s4 s5 s6
            have HQ := Lib.hid hqk'
            have hpw := PowAt.new HI.out ⟨pf, pt, po⟩
            have HP := Lib.hid hpw.drew
            have tok0 : True := trivial
            clear hqk hqk' hp hpw hF
            go_wp2
            obtain ⟨c0, c1, c2⟩ := HP.out.cells
            dsimp only at c0 c1 c2
            go_region_held3 (fun w' => w'.cell? ⟨wr.heap.size, 0, none⟩ = some (.int .i64 pf) ∧ w'.cell? ⟨wr.heap.size, 1, none⟩ = some (.int .i64 pt) ∧ w'.cell? ⟨wr.heap.size, 2, none⟩ = some (.int .i64 po)) (first | exact ⟨c0, c1, c2⟩ | go_keep) (first
              | (clear tok0; go_at_call 50; refine (pow_dec pf s1 s2 HG1.out HP.out).mono ?_; rintro e w2 ⟨rfl, hp2⟩; clear c0 c1 c2; obtain ⟨c0, c1, c2⟩ := hp2.cells; have hz2 := hp2.blk.lt; have HP2 := Lib.hid hp2; clear hp2; have tok1 : True := trivial)
              | (clear tok1; go_at_call 50; refine (pow_dec pt s3 s4 HG1.out HP2.out).mono ?_; rintro e w3 ⟨rfl, hp3⟩; obtain ⟨c0, c1, c2⟩ := hp3.cells; have hz3 := hp3.blk.lt; have HP3 := Lib.hid hp3; clear hp3; have tok2 : True := trivial)
              | (clear tok2; go_at_call 50; refine (pow_dec po s5 s6 HG1.out HP3.out).mono ?_; rintro e w4 ⟨rfl, hp4⟩; obtain ⟨c0, c1, c2⟩ := hp4.cells; have hz4 := hp4.blk.lt; have HP4 := Lib.hid hp4; clear hp4; have tok3 : True := trivial)
              | (clear tok3; go_at_call 51; refine (pow_line _ _ _ HP4.out rfl).mono ?_; rintro e w5 ⟨A5, n5, k5, rfl, hp5⟩; obtain ⟨c0, c1, c2⟩ := hp5.1.cells; have hz5 := hp5.1.blk.lt; have hs5 := hp5.1.inv.hz; have HP5 := Lib.hid hp5; clear hp5; have tok4 : True := trivial)
              | (clear tok4; refine step_append_gl rfl (.tmp 96) (.tmp 111) _ rfl E_lin elLin_good w1.heap.size _ _ out rfl (HP5.out.row _) ⟨w5.heap.size, 0, none⟩ 1 [.int .i64 0, .slice A5 n5 k5] rfl (powLine ⟨pf, pt, po⟩) rfl (cells_new _ _ _ _) (oneCells rfl) (fun b hb => ⟨hb.2.1, hb.2.2.1⟩) (HP5.out.2 _) (by simp only [maxLen]; omega) (by omega) (by simp; omega) ?_; intro g6 cap6 w6 hown6 hg6 hat6; have hp6 := HP5.out.app hown6 hg6 hat6; obtain ⟨c0, c1, c2⟩ := hp6.cells; have HP6 := Lib.hid hp6; clear hp6 hown6 hg6 hat6; have tok5 : True := trivial))
            go_wp2
            go_roundw
            case rel => exact ⟨k + 1, _, by omega, by go_num, HP6.out.inv, by unfold Hid; rw [← HQ.out, List.append_assoc]; rfl, by unfold Hid; rw [List.length_append, hol.out]; rfl, ⟨_, _, _, rfl⟩⟩
            case measure => simp [intOf]; omega
          · have hke : k = r.power.length := by omega
            have ho := hqk.out
            rw [List.drop_eq_nil_of_le (by omega), List.map_nil, List.append_nil] at ho
            have hwr := write_rows HI.out ho HGR.out HL.out
            have HWR := Lib.hid hwr
            clear hwr hqk hke ho
            go_wp2_with (go_at_call 46; refine HWR.out.mono ?_; rintro x w9 ⟨rfl, hb9⟩)
            refine bodyPost_ret (v := .tuple #[.string (S (writeS (rulLines r))), .int .i64 0]) (by simp [results, Tryz.results19, go_sem]) rfl ⟨?_, HBR.out.trans (hb9.mono HBR.out.size)⟩
            rw [HRES.out]
  · have hres' : res = ([], checkR r) := by rw [hres, textR_bad hc0]
    obtain ⟨e, he⟩ : ∃ e, e = checkR r := ⟨_, rfl⟩
    rw [← he] at kc hc0 hres'
    have e0 : (e != 0) = true := by simp [hc0]
    unfold rulV rulCells at kc
    have KC := Lib.hid kc
    have HRES := Lib.hid hres'
    clear kc hres' hres hg hA h hb0 hc0 hn he hW
    clear W
    unfold rulV rulCells
    go_enter Tryz.func19, Tryz.ntmps19
    go_wp2_with (go_at_call 28; refine KC.out.mono ?_; rintro x w1 ⟨rfl, hb1, hr1⟩; have HB1 := Lib.hid hb1; clear hb1 hr1)
    refine bodyPost_ret (v := .tuple #[.string ⟨#[]⟩, .int .i64 e]) (by simp [results, Tryz.results19, go_sem]) rfl ⟨?_, HB1.out⟩
    rw [HRES.out]
    rfl
end Go.Proofs.YtglkejlimeakbaaGreatDoor

namespace Go.Proofs.YtglkejlimeakbaaGreatDoor
section
/-! part U16 -/
open Go.RowKit

/-- Rules that a function made, and a second result. -/
def RulPost (w : World) (q : Rul) (u : Value) (e : Ending) (w' : World) : Prop := ∃ pv, e = .returned (.tuple #[rulV q pv, u]) ∧ Sl 3 elPha w' (fun b => w.heap.size ≤ b ∧ b < w'.heap.size) pv q.power ∧ Below w.heap.size w w'
theorem phas_one (w : World) (p : Pha) : Sl 3 elPha (w.alloc (.cells #[.int .i64 p.fr, .int .i64 p.til, .int .i64 p.out] 72)) (fun b => w.heap.size ≤ b ∧ b < (w.alloc (.cells #[.int .i64 p.fr, .int .i64 p.til, .int .i64 p.out] 72)).heap.size) (.slice (some ⟨w.heap.size, 0, none⟩) 1 1) [p] :=
  (own_lit (R := elPha) (size := 3) (e := 72) w [[.int .i64 p.fr, .int .i64 p.til, .int .i64 p.out]] [p] rfl (by intro cs h; simp at h; subst h; rfl) (by simp [maxLen]) fun i x cs h1 h2 => by
    have hlt := (List.getElem?_eq_some_iff.1 h1).1
    have : i = 0 := by simp at hlt; exact hlt
    subst this
    simp at h1 h2; subst h1; subst h2; rfl).sl elPha_good
theorem phas_two (w : World) (p q : Pha) : Sl 3 elPha (w.alloc (.cells #[.int .i64 p.fr, .int .i64 p.til, .int .i64 p.out, .int .i64 q.fr, .int .i64 q.til, .int .i64 q.out] 72)) (fun b => w.heap.size ≤ b ∧ b < (w.alloc (.cells #[.int .i64 p.fr, .int .i64 p.til, .int .i64 p.out, .int .i64 q.fr, .int .i64 q.til, .int .i64 q.out] 72)).heap.size) (.slice (some ⟨w.heap.size, 0, none⟩) 2 2) [p, q] :=
  (own_lit (R := elPha) (size := 3) (e := 72) w [[.int .i64 p.fr, .int .i64 p.til, .int .i64 p.out], [.int .i64 q.fr, .int .i64 q.til, .int .i64 q.out]] [p, q] rfl (by intro cs h; simp at h; rcases h with rfl | rfl <;> rfl) (by simp [maxLen]) fun i x cs h1 h2 => by
    have hlt := (List.getElem?_eq_some_iff.1 h1).1
    have : i = 0 ∨ i = 1 := by simp at hlt; omega
    rcases this with rfl | rfl
    · simp at h1 h2; subst h1; subst h2; rfl
    · simp at h1 h2; subst h1; subst h2; rfl).sl elPha_good
theorem below_two (w : World) (a b : Obj) : Below w.heap.size w ((w.alloc a).alloc b) := Below.alloc (Below.alloc (Below.refl _ _) (Nat.le_refl _) _) (by simp) _
theorem size_two (w : World) (a b : Obj) : ((w.alloc a).alloc b).heap.size = w.heap.size + 1 + 1 := by simp
theorem std_two (w : World) (a b : Obj) (p q : Pha) : Sl 3 elPha (((w.alloc a).alloc b).alloc (.cells #[.int .i64 p.fr, .int .i64 p.til, .int .i64 p.out, .int .i64 q.fr, .int .i64 q.til, .int .i64 q.out] 72)) (fun x => w.heap.size ≤ x ∧ x < (((w.alloc a).alloc b).alloc (.cells #[.int .i64 p.fr, .int .i64 p.til, .int .i64 p.out, .int .i64 q.fr, .int .i64 q.til, .int .i64 q.out] 72)).heap.size) (.slice (some ⟨w.heap.size + 1 + 1, 0, none⟩) 2 2) [p, q] := by
  have h := phas_two ((w.alloc a).alloc b) p q
  rw [size_two w a b] at h
  exact h.keep elPha_good (Same.refl _ _) fun x hx => ⟨by omega, hx.2⟩
theorem std_one (w : World) (a b : Obj) (p : Pha) : Sl 3 elPha (((w.alloc a).alloc b).alloc (.cells #[.int .i64 p.fr, .int .i64 p.til, .int .i64 p.out] 72)) (fun x => w.heap.size ≤ x ∧ x < (((w.alloc a).alloc b).alloc (.cells #[.int .i64 p.fr, .int .i64 p.til, .int .i64 p.out] 72)).heap.size) (.slice (some ⟨w.heap.size + 1 + 1, 0, none⟩) 1 1) [p] := by
  have h := phas_one ((w.alloc a).alloc b) p
  rw [size_two w a b] at h
  exact h.keep elPha_good (Same.refl _ _) fun x hx => ⟨by omega, hx.2⟩
set_option maxRecDepth 100000 in
set_option maxHeartbeats 2000000 in
theorem rul_Standard (n : List UInt8) (w : World) : Calls Tryz.prog 18 #[.string (S n)] w (RulPost w (standardS n).1 (.int .i64 (standardS n).2)) := by
  have hb2 := fun a b => below_two w a b
  have HB2 := Lib.hid hb2
  clear hb2
  by_cases h1 : n = kTEST
  · have e1 : (n == [84, 69, 83, 84]) = true := by rw [h1]; rfl
    have hs : standardS n = (stdTest, 0) := by unfold standardS; rw [if_pos h1]
    rw [hs]
    have hn : S n = ⟨#[84, 69, 83, 84]⟩ := by rw [h1]; rfl
    rw [hn]
    clear hs hn h1 e1
    go_enter Tryz.func18, Tryz.ntmps18
    go_wp2
    refine bodyPost_ret (v := .tuple #[rulV stdTest (.slice none 0 0), .int .i64 0]) (by simp [results, Tryz.results18, go_sem]; rfl) rfl ⟨_, rfl, Sl.nil _ _, HB2.out _ _⟩
  · by_cases h2 : n = kONEDAY
    · have hs : standardS n = (stdOne, 0) := by unfold standardS; rw [if_neg h1, if_pos h2]
      rw [hs]
      have hn : S n = ⟨#[79, 78, 69, 68, 65, 89]⟩ := by rw [h2]; rfl
      rw [hn]
      have hp := fun a b => std_two w a b ⟨1, 10, 2⟩ ⟨11, 40, 4⟩
      have HP := Lib.hid hp
      clear hs hn h1 h2 hp
      go_enter Tryz.func18, Tryz.ntmps18
      go_wp2
      refine bodyPost_ret (v := .tuple #[rulV stdOne (.slice (some ⟨w.heap.size + 1 + 1, 0, none⟩) 2 2), .int .i64 0]) (by simp [results, Tryz.results18, go_sem]; rfl) rfl ⟨_, rfl, ?_, ?_⟩
      · exact HP.out _ _
      · exact (HB2.out _ _).alloc (by simp; omega) _
    · by_cases h3 : n = kTWENTY
      · have hs : standardS n = (stdTwenty, 0) := by unfold standardS; rw [if_neg h1, if_neg h2, if_pos h3]
        rw [hs]
        have hn : S n = ⟨#[84, 87, 69, 78, 84, 89]⟩ := by rw [h3]; rfl
        rw [hn]
        have hp := fun a b => std_one w a b ⟨1, 6, 2⟩
        have HP := Lib.hid hp
        clear hs hn h1 h2 h3 hp
        go_enter Tryz.func18, Tryz.ntmps18
        go_wp2
        refine bodyPost_ret (v := .tuple #[rulV stdTwenty (.slice (some ⟨w.heap.size + 1 + 1, 0, none⟩) 1 1), .int .i64 0]) (by simp [results, Tryz.results18, go_sem]; rfl) rfl ⟨_, rfl, ?_, ?_⟩
        · exact HP.out _ _
        · exact (HB2.out _ _).alloc (by simp; omega) _
      · have hs : standardS n = (noRul, 6) := by unfold standardS; rw [if_neg h1, if_neg h2, if_neg h3]
        rw [hs]
        have e1 : (n == [84, 69, 83, 84]) = false := beq_eq_false_iff_ne.2 h1
        have e2 : (n == [79, 78, 69, 68, 65, 89]) = false := beq_eq_false_iff_ne.2 h2
        have e3 : (n == [84, 87, 69, 78, 84, 89]) = false := beq_eq_false_iff_ne.2 h3
        clear hs h1 h2 h3
        go_enter Tryz.func18, Tryz.ntmps18
        go_wp2
        refine bodyPost_ret (v := .tuple #[rulV noRul (.slice none 0 0), .int .i64 6]) (by simp [results, Tryz.results18, go_sem]; rfl) rfl ⟨_, rfl, Sl.nil _ _, HB2.out _ _⟩
end

section
/-! part U17 -/
open Go.RowKit

theorem list_yield {P : Program} {w : World} {β : Type} (body : Nat → β → Sem (ForInStep β)) (b : β) : ∀ (l : List Nat), (∀ i ∈ l, (body i b).run P w = .ok (.yield b) w) → (forIn l b body : Sem β).run P w = .ok b w := by
  intro l
  induction l with
  | nil => intro _; simp
  | cons i l ih =>
    intro h
    rw [List.forIn_cons]
    simp only [Sem.run_bind, h i (by simp), Result.andThen_ok]
    exact ih fun j hj => h j (by simp [hj])
def numsA (r : Rul) : Array Value := #[.int .i64 r.side, .int .i64 r.inns, .int .i64 r.overs, .int .i64 r.balls, .int .i64 r.quota, .int .i64 r.wide, .int .i64 r.noball, .int .i64 r.newball, .int .i64 r.follow, .int .i64 r.reviews, .int .i64 r.outside]
theorem nums_part (r : Rul) (w : World) (i : Nat) (hi : i < 11) : ∃ v : Int, (part 3 (numsA r) (i * 1)).run Tryz.prog w = .ok (.int .i64 v) w := by
  unfold numsA
  match i, hi with
  | 0, _ => exact ⟨r.side, by kernel_rfl⟩
  | 1, _ => exact ⟨r.inns, by kernel_rfl⟩
  | 2, _ => exact ⟨r.overs, by kernel_rfl⟩
  | 3, _ => exact ⟨r.balls, by kernel_rfl⟩
  | 4, _ => exact ⟨r.quota, by kernel_rfl⟩
  | 5, _ => exact ⟨r.wide, by kernel_rfl⟩
  | 6, _ => exact ⟨r.noball, by kernel_rfl⟩
  | 7, _ => exact ⟨r.newball, by kernel_rfl⟩
  | 8, _ => exact ⟨r.follow, by kernel_rfl⟩
  | 9, _ => exact ⟨r.reviews, by kernel_rfl⟩
  | 10, _ => exact ⟨r.outside, by kernel_rfl⟩
set_option maxRecDepth 100000 in
theorem nums_equal (r : Rul) (w : World) : (Op.equalIn 10000 93 (.agg (numsA r)) (.agg (numsA r))).run Tryz.prog w = .ok true w := by
  have h : (Op.equalIn (9999 + 1) 93 (.agg (numsA r)) (.agg (numsA r))).run Tryz.prog w = .ok true w := by
    rw [Op.equalIn]
    have hz : (sizeOf 3).run Tryz.prog w = .ok 1 w := by kernel_rfl
    simp only [Sem.run_bind, run_underlying Tryz.underlying93, Result.andThen_ok, hz]
    rw [Std.Legacy.Range.forIn_eq_forIn_range', list_yield]
    · simp
    · intro i hi
      have hi' : i < 11 := by
        have := List.mem_range'_1.1 hi
        simp [Std.Legacy.Range.size] at this
        omega
      obtain ⟨v, hv⟩ := nums_part r w i hi'
      have he := run_equalIn_int (P := Tryz.prog) w 9998 3 .i64 .i64 v v Tryz.underlying3
      simp only [Sem.run_bind, hv, Result.andThen_ok]
      rw [he]
      simp
  exact h
/-- Two boxed rules whose powerplays were put aside. -/
structure Box2R (w W : World) (r : Rul) : Prop where
  k0 : Blk W w.heap.size 25 (rulCells r (.slice none 0 0))
  k1 : Blk W (w.heap.size + 1) 25 (rulCells r (.slice none 0 0))
  bel : Below w.heap.size w W
theorem Box2R.below {w W W' : World} {r : Rul} (h : Box2R w W r) (hb : Below W.heap.size W W') : Box2R w W' r := ⟨h.k0.below hb h.k0.lt, h.k1.below hb h.k1.lt, h.bel.trans (hb.mono h.bel.size)⟩
theorem Box2R.new (w : World) (r : Rul) (pv qv : Value) (n : Nat) : Box2R w (((((w.alloc (.cells (rulCells r pv) 25)).alloc (.cells (rulCells r qv) 25)).drewN n).setCell ⟨w.heap.size, 13, none⟩ (.slice none 0 0)).setCell ⟨w.heap.size + 1, 13, none⟩ (.slice none 0 0)) r := by
  have e : (w.alloc (.cells (rulCells r pv) 25)).heap.size = w.heap.size + 1 := by simp
  have k := Blk.new (w.alloc (.cells (rulCells r pv) 25)) 25 (rulCells r qv)
  rw [e] at k
  have k0 : Blk (((w.alloc (.cells (rulCells r pv) 25)).alloc (.cells (rulCells r qv) 25)).drewN n) w.heap.size 25 (rulCells r pv) := (Blk.new w _ _).alloc _
  have k1 : Blk (((w.alloc (.cells (rulCells r pv) 25)).alloc (.cells (rulCells r qv) 25)).drewN n) (w.heap.size + 1) 25 (rulCells r qv) := k
  exact ⟨(k0.set_ 13 (.slice none 0 0)).far (p := ⟨w.heap.size + 1, 13, none⟩) (by simp) _, (k1.far (p := ⟨w.heap.size, 13, none⟩) (by simp) _).set_ 13 (.slice none 0 0), ((Below.drewN_ (Below.alloc (Below.alloc (Below.refl _ _) (Nat.le_refl _) _) (by simp) _) n).setCell (Nat.le_refl _) _).setCell (by simp) _⟩
theorem Box2R.drew {w W : World} {r : Rul} (h : Box2R w W r) : Box2R w W.drew r := h.below (Below.drew (Below.refl _ _))
set_option maxRecDepth 100000 in
set_option maxHeartbeats 4000000 in
theorem rul_Same (r : Rul) (ps qs : List Pha) (pv qv : Value) (w : World) (h : Sl 3 elPha w (· < w.heap.size) pv ps) (h' : Sl 3 elPha w (· < w.heap.size) qv qs) :
    Calls Tryz.prog 23 #[rulV r pv, rulV r qv] w fun e w' => e = .returned (.bool (eqPhas ps qs)) ∧ Below w.heap.size w w' := by
  obtain ⟨A, c, rfl, hc, hc2⟩ := h.shape
  obtain ⟨A', c', rfl, hc', hc2'⟩ := h'.shape
  obtain ⟨z, hz⟩ : ∃ z, z = eqPhas ps qs := ⟨_, rfl⟩
  have ke : ∀ W, Box2R w W r → Calls Tryz.prog 54 #[.slice A ps.length c, .slice A' qs.length c'] W fun e w' => e = .returned (.bool z) ∧ Box2R w w' r := by
    intro W hW
    refine (pha_Equal ps qs _ _ _ _ W (h.keep elPha_good (Same.below hW.bel fun _ h => h) fun _ h => h) (h'.keep elPha_good (Same.below hW.bel fun _ h => h) fun _ h => h)).mono ?_
    rintro e w' ⟨rfl, n, rfl⟩
    exact ⟨by rw [hz], hW.below (Below.drewN_ (Below.refl _ _) n)⟩
  obtain ⟨na, hna⟩ : ∃ na, na = numsA r := ⟨_, rfl⟩
  have kn : ∀ W, Box2R w W r → Calls Tryz.prog 53 #[rulV r (.slice none 0 0)] W fun e w' => e = .returned (.agg na) ∧ Box2R w w' r := by
    intro W hW
    refine (rul_numbers r _ W).mono ?_
    rintro e w' ⟨rfl, hb⟩
    exact ⟨by rw [hna]; rfl, hW.below hb⟩
  have he : ∀ W, (Op.equalIn 10000 93 (.agg na) (.agg na)).run Tryz.prog W = .ok true W := fun W => by rw [hna]; exact nums_equal r W
  have hg : Tryz.prog.eqGuardType Tryz.prog.depth 93 = false := by kernel_rfl
  rw [← hz]
  have hst := Box2R.new w r (.slice A ps.length c) (.slice A' qs.length c')
  unfold rulCells at hst
  have HB := Lib.hid hst
  clear hst
  unfold rulV rulCells at kn
  have KE := Lib.hid ke
  have KN := Lib.hid kn
  clear ke kn hz hna h h'
  unfold rulV rulCells
  go_enter Tryz.func23, Tryz.ntmps23
  go_wp2
  go_quiet (fail)
  go_wp2
  have hst := HB.out nq
  revert hst
  generalize World.setCell _ _ _ = W
  intro hst
  have hb0 := hst.drew
  clear hst
  have HB0 := Lib.hid hb0
  obtain ⟨y0, y1, y2, y3, y4, y5, y6, y7, y8, y9, y10, y11, y12, y13⟩ := Blk.fourteen (show Blk _ _ _ #[.string (S r.name), .int .i64 r.side, .int .i64 r.inns, .int .i64 r.overs, .int .i64 r.balls, .int .i64 r.quota, .int .i64 r.wide, .int .i64 r.noball, .bool r.free, .int .i64 r.newball, .int .i64 r.follow, .int .i64 r.reviews, .int .i64 r.outside, .slice none 0 0] from hb0.k0)
  obtain ⟨z0, z1, z2, z3, z4, z5, z6, z7, z8, z9, z10, z11, z12, z13⟩ := Blk.fourteen (show Blk _ _ _ #[.string (S r.name), .int .i64 r.side, .int .i64 r.inns, .int .i64 r.overs, .int .i64 r.balls, .int .i64 r.quota, .int .i64 r.wide, .int .i64 r.noball, .bool r.free, .int .i64 r.newball, .int .i64 r.follow, .int .i64 r.reviews, .int .i64 r.outside, .slice none 0 0] from hb0.k1)
  have tok0 : True := trivial
  clear hb0
  go_region_held3 (fun w' => w'.cell? ⟨w.heap.size, 0, none⟩ = some (.string (S r.name)) ∧ w'.cell? ⟨w.heap.size, 1, none⟩ = some (.int .i64 r.side) ∧ w'.cell? ⟨w.heap.size, 2, none⟩ = some (.int .i64 r.inns) ∧ w'.cell? ⟨w.heap.size, 3, none⟩ = some (.int .i64 r.overs) ∧ w'.cell? ⟨w.heap.size, 4, none⟩ = some (.int .i64 r.balls) ∧ w'.cell? ⟨w.heap.size, 5, none⟩ = some (.int .i64 r.quota) ∧ w'.cell? ⟨w.heap.size, 6, none⟩ = some (.int .i64 r.wide) ∧ w'.cell? ⟨w.heap.size, 7, none⟩ = some (.int .i64 r.noball) ∧ w'.cell? ⟨w.heap.size, 8, none⟩ = some (.bool r.free) ∧ w'.cell? ⟨w.heap.size, 9, none⟩ = some (.int .i64 r.newball) ∧ w'.cell? ⟨w.heap.size, 10, none⟩ = some (.int .i64 r.follow) ∧ w'.cell? ⟨w.heap.size, 11, none⟩ = some (.int .i64 r.reviews) ∧ w'.cell? ⟨w.heap.size, 12, none⟩ = some (.int .i64 r.outside) ∧ w'.cell? ⟨w.heap.size, 13, none⟩ = some (.slice none 0 0) ∧ w'.cell? ⟨w.heap.size + 1, 0, none⟩ = some (.string (S r.name)) ∧ w'.cell? ⟨w.heap.size + 1, 1, none⟩ = some (.int .i64 r.side) ∧ w'.cell? ⟨w.heap.size + 1, 2, none⟩ = some (.int .i64 r.inns) ∧ w'.cell? ⟨w.heap.size + 1, 3, none⟩ = some (.int .i64 r.overs) ∧ w'.cell? ⟨w.heap.size + 1, 4, none⟩ = some (.int .i64 r.balls) ∧ w'.cell? ⟨w.heap.size + 1, 5, none⟩ = some (.int .i64 r.quota) ∧ w'.cell? ⟨w.heap.size + 1, 6, none⟩ = some (.int .i64 r.wide) ∧ w'.cell? ⟨w.heap.size + 1, 7, none⟩ = some (.int .i64 r.noball) ∧ w'.cell? ⟨w.heap.size + 1, 8, none⟩ = some (.bool r.free) ∧ w'.cell? ⟨w.heap.size + 1, 9, none⟩ = some (.int .i64 r.newball) ∧ w'.cell? ⟨w.heap.size + 1, 10, none⟩ = some (.int .i64 r.follow) ∧ w'.cell? ⟨w.heap.size + 1, 11, none⟩ = some (.int .i64 r.reviews) ∧ w'.cell? ⟨w.heap.size + 1, 12, none⟩ = some (.int .i64 r.outside) ∧ w'.cell? ⟨w.heap.size + 1, 13, none⟩ = some (.slice none 0 0)) (first | exact ⟨y0, y1, y2, y3, y4, y5, y6, y7, y8, y9, y10, y11, y12, y13, z0, z1, z2, z3, z4, z5, z6, z7, z8, z9, z10, z11, z12, z13⟩ | go_keep) (first
    | (clear tok0; go_at_call 53; refine (KN.out _ HB0.out).mono ?_; rintro e w2 ⟨rfl, hb2⟩; clear y0 y1 y2 y3 y4 y5 y6 y7 y8 y9 y10 y11 y12 y13 z0 z1 z2 z3 z4 z5 z6 z7 z8 z9 z10 z11 z12 z13; obtain ⟨y0, y1, y2, y3, y4, y5, y6, y7, y8, y9, y10, y11, y12, y13⟩ := Blk.fourteen (show Blk _ _ _ #[.string (S r.name), .int .i64 r.side, .int .i64 r.inns, .int .i64 r.overs, .int .i64 r.balls, .int .i64 r.quota, .int .i64 r.wide, .int .i64 r.noball, .bool r.free, .int .i64 r.newball, .int .i64 r.follow, .int .i64 r.reviews, .int .i64 r.outside, .slice none 0 0] from hb2.k0); obtain ⟨z0, z1, z2, z3, z4, z5, z6, z7, z8, z9, z10, z11, z12, z13⟩ := Blk.fourteen (show Blk _ _ _ #[.string (S r.name), .int .i64 r.side, .int .i64 r.inns, .int .i64 r.overs, .int .i64 r.balls, .int .i64 r.quota, .int .i64 r.wide, .int .i64 r.noball, .bool r.free, .int .i64 r.newball, .int .i64 r.follow, .int .i64 r.reviews, .int .i64 r.outside, .slice none 0 0] from hb2.k1); have HB2 := Lib.hid hb2; clear hb2; have tok1 : True := trivial)
    | (clear tok1; go_at_call 53; refine (KN.out _ HB2.out).mono ?_; rintro e w3 ⟨rfl, hb3⟩; clear y0 y1 y2 y3 y4 y5 y6 y7 y8 y9 y10 y11 y12 y13 z0 z1 z2 z3 z4 z5 z6 z7 z8 z9 z10 z11 z12 z13; obtain ⟨y0, y1, y2, y3, y4, y5, y6, y7, y8, y9, y10, y11, y12, y13⟩ := Blk.fourteen (show Blk _ _ _ #[.string (S r.name), .int .i64 r.side, .int .i64 r.inns, .int .i64 r.overs, .int .i64 r.balls, .int .i64 r.quota, .int .i64 r.wide, .int .i64 r.noball, .bool r.free, .int .i64 r.newball, .int .i64 r.follow, .int .i64 r.reviews, .int .i64 r.outside, .slice none 0 0] from hb3.k0); obtain ⟨z0, z1, z2, z3, z4, z5, z6, z7, z8, z9, z10, z11, z12, z13⟩ := Blk.fourteen (show Blk _ _ _ #[.string (S r.name), .int .i64 r.side, .int .i64 r.inns, .int .i64 r.overs, .int .i64 r.balls, .int .i64 r.quota, .int .i64 r.wide, .int .i64 r.noball, .bool r.free, .int .i64 r.newball, .int .i64 r.follow, .int .i64 r.reviews, .int .i64 r.outside, .slice none 0 0] from hb3.k1); have HB3 := Lib.hid hb3; clear hb3; have tok2 : True := trivial)
    | (clear tok2; go_at_call 54; refine (KE.out _ HB3.out).mono ?_; rintro e w4 ⟨rfl, hb4⟩; clear y0 y1 y2 y3 y4 y5 y6 y7 y8 y9 y10 y11 y12 y13 z0 z1 z2 z3 z4 z5 z6 z7 z8 z9 z10 z11 z12 z13; obtain ⟨y0, y1, y2, y3, y4, y5, y6, y7, y8, y9, y10, y11, y12, y13⟩ := Blk.fourteen (show Blk _ _ _ #[.string (S r.name), .int .i64 r.side, .int .i64 r.inns, .int .i64 r.overs, .int .i64 r.balls, .int .i64 r.quota, .int .i64 r.wide, .int .i64 r.noball, .bool r.free, .int .i64 r.newball, .int .i64 r.follow, .int .i64 r.reviews, .int .i64 r.outside, .slice none 0 0] from hb4.k0); obtain ⟨z0, z1, z2, z3, z4, z5, z6, z7, z8, z9, z10, z11, z12, z13⟩ := Blk.fourteen (show Blk _ _ _ #[.string (S r.name), .int .i64 r.side, .int .i64 r.inns, .int .i64 r.overs, .int .i64 r.balls, .int .i64 r.quota, .int .i64 r.wide, .int .i64 r.noball, .bool r.free, .int .i64 r.newball, .int .i64 r.follow, .int .i64 r.reviews, .int .i64 r.outside, .slice none 0 0] from hb4.k1); have HB4 := Lib.hid hb4; clear hb4; have tok3 : True := trivial))
  go_wp2
  go_ret
  exact ⟨rfl, HB4.out.bel⟩
end
end Go.Proofs.YtglkejlimeakbaaGreatDoor

namespace Go.Proofs.YtglkejlimeakbaaGreatDoor
open Go.RowKit

set_option maxRecDepth 100000 in
set_option maxHeartbeats 4000000 in
theorem ref_Name (s : ByteArray) (w : World) (hs : s.size ≤ maxLen) :
    Calls Tryz.prog 73 #[.string s] w fun e w' => e = .returned (.bool (nameS s.data.toList)) ∧ w' = w := by
  unfold maxLen at hs
  have hb : ∀ b, (nameS s.data.toList = b) → nameS s.data.toList = b := fun _ h => h
  by_cases hz : s.size = 0
  · have e0 : s.toList.isEmpty = true := by rw [ByteArray.toList_eq, List.isEmpty_iff, ← List.length_eq_zero_iff]; simpa using hz
    have hn : nameS s.data.toList = false := by rw [Bool.eq_false_iff]; intro h; have := (nameS_eq _).1 h; have h1 := this.2.1; simp at h1; omega
    have HN := Lib.hid hn
    clear hn hb hz
    go_enter Tryz.func73, Tryz.ntmps73
    go_wp2
    go_ret
    exact ⟨ret_b HN.out.symm, rfl⟩
  · have e0 : s.toList.isEmpty = false := by rw [Bool.eq_false_iff]; intro h; rw [ByteArray.toList_eq, List.isEmpty_iff, ← List.length_eq_zero_iff] at h; exact hz (by simpa using h)
    by_cases h16 : (16 : Int) < (s.size : Int)
    · have hn : nameS s.data.toList = false := by rw [Bool.eq_false_iff]; intro h; have := (nameS_eq _).1 h; have h1 := this.2.2; simp at h1; omega
      have HN := Lib.hid hn
      clear hn hb hz
      go_enter Tryz.func73, Tryz.ntmps73
      go_wp2
      go_ret
      exact ⟨ret_b HN.out.symm, rfl⟩
    · have h16' : (s.size : Int) ≤ 16 := by omega
      have HZ := Lib.hid hz
      clear hb hz
      go_enter Tryz.func73, Tryz.ntmps73
      go_wp2
      go_loop [3] (fun i => ∃ k : Nat, k ≤ s.size ∧ i = .int .i64 k ∧ Hid (∀ j, j < k → nameOk s.data.toList j = true)) (fun i => s.size - (intOf i).toNat)
      case atStart => exact ⟨0, Nat.zero_le _, rfl, fun j hj => absurd hj (by omega)⟩
      case round =>
        obtain ⟨k, hk, rfl, hall⟩ := hrel
        by_cases hlt : k < s.size
        · have hbad := Lib.hid (nameS_bad s k hlt)
          have hat := Lib.hid (nameOk_at s k hlt)
          rcases Nat.eq_zero_or_pos k with h0 | h0
          · have hzk : ((k : Int) == 0) = true := by rw [h0]; rfl
            have h0' := Lib.hid h0
            clear h0
            rcases (show (s[k].toNat : Int) < 65 ∨ (65 ≤ (s[k].toNat : Int) ∧ (s[k].toNat : Int) ≤ 90) ∨ 90 < (s[k].toNat : Int) from by omega) with hc | ⟨hc, hc'⟩ | hc
            all_goals ((first | (have e1 : decide ((65 : Int) ≤ (s[k].toNat : Int)) = true := decide_eq_true (by omega)) | (have e1 : decide ((65 : Int) ≤ (s[k].toNat : Int)) = false := decide_eq_false (by omega))); (first | (have e2 : decide ((s[k].toNat : Int) ≤ (90 : Int)) = true := decide_eq_true (by omega)) | (have e2 : decide ((s[k].toNat : Int) ≤ (90 : Int)) = false := decide_eq_false (by omega))); go_wp2)
            all_goals first
              | (go_ret; exact ⟨ret_b (hbad.out (by rw [hat.out, if_pos h0'.out, letterB_iff, decide_eq_false_iff_not]; omega)).symm, rfl⟩)
              | (go_round
                 case rel => exact ⟨k + 1, by omega, by go_num, nameOk_next hall hat.out (by rw [if_pos h0'.out, letterB_iff, decide_eq_true_eq]; omega)⟩
                 case measure => simp [intOf]; omega)
          · have hzk : ((k : Int) == 0) = false := by simp; omega
            rcases (show (s[k].toNat : Int) < 45 ∨ (45 ≤ (s[k].toNat : Int) ∧ (s[k].toNat : Int) ≤ 45) ∨ (46 ≤ (s[k].toNat : Int) ∧ (s[k].toNat : Int) ≤ 47) ∨ (48 ≤ (s[k].toNat : Int) ∧ (s[k].toNat : Int) ≤ 57) ∨ (58 ≤ (s[k].toNat : Int) ∧ (s[k].toNat : Int) ≤ 64) ∨ (65 ≤ (s[k].toNat : Int) ∧ (s[k].toNat : Int) ≤ 90) ∨ (91 ≤ (s[k].toNat : Int) ∧ (s[k].toNat : Int) ≤ 94) ∨ (95 ≤ (s[k].toNat : Int) ∧ (s[k].toNat : Int) ≤ 95) ∨ 95 < (s[k].toNat : Int) from by omega) with hc | ⟨hc, hc'⟩ | ⟨hc, hc'⟩ | ⟨hc, hc'⟩ | ⟨hc, hc'⟩ | ⟨hc, hc'⟩ | ⟨hc, hc'⟩ | ⟨hc, hc'⟩ | hc
            all_goals ((first | (have e1 : decide ((65 : Int) ≤ (s[k].toNat : Int)) = true := decide_eq_true (by omega)) | (have e1 : decide ((65 : Int) ≤ (s[k].toNat : Int)) = false := decide_eq_false (by omega))); (first | (have e2 : decide ((s[k].toNat : Int) ≤ (90 : Int)) = true := decide_eq_true (by omega)) | (have e2 : decide ((s[k].toNat : Int) ≤ (90 : Int)) = false := decide_eq_false (by omega))); (first | (have e3 : ((s[k].toNat : Int) != (95 : Int)) = true := by rw [bne_iff_ne]; omega) | (have e3 : ((s[k].toNat : Int) != (95 : Int)) = false := by rw [bne_eq_false_iff_eq]; omega)); (first | (have e4 : ((s[k].toNat : Int) != (45 : Int)) = true := by rw [bne_iff_ne]; omega) | (have e4 : ((s[k].toNat : Int) != (45 : Int)) = false := by rw [bne_eq_false_iff_eq]; omega)); (first | (have e5 : decide ((s[k].toNat : Int) < (48 : Int)) = true := decide_eq_true (by omega)) | (have e5 : decide ((s[k].toNat : Int) < (48 : Int)) = false := decide_eq_false (by omega))); (first | (have e6 : decide ((57 : Int) < (s[k].toNat : Int)) = true := decide_eq_true (by omega)) | (have e6 : decide ((57 : Int) < (s[k].toNat : Int)) = false := decide_eq_false (by omega))); go_wp2)
            all_goals first
              | (go_ret; exact ⟨ret_b (hbad.out (by rw [hat.out, if_neg (by omega), tailB_iff, decide_eq_false_iff_not]; omega)).symm, rfl⟩)
              | (go_round
                 case rel => exact ⟨k + 1, by omega, by go_num, nameOk_next hall hat.out (by rw [if_neg (by omega), tailB_iff, decide_eq_true_eq]; omega)⟩
                 case measure => simp [intOf]; omega)

        · obtain rfl : k = s.size := by omega
          have hn : nameS s.data.toList = true := by
            rw [nameS_end s hall.out]
            have := HZ.out
            simp; omega
          have HN := Lib.hid hn
          clear hn
          go_wp2
          go_ret
          exact ⟨ret_b HN.out.symm, rfl⟩

end Go.Proofs.YtglkejlimeakbaaGreatDoor

namespace Go.Proofs.YtglkejlimeakbaaGreatDoor
open Go.RowKit

theorem andF {a b : Bool} (h : (a && b) = false) : a = false ∨ (a = true ∧ b = false) := by cases a <;> cases b <;> simp_all
set_option maxRecDepth 100000 in
set_option maxHeartbeats 4000000 in
theorem ref_RCheck_bad (r : Rul) (pv : Value) (w : World) (h : Sl 3 elPha w (· < w.heap.size) pv r.power) (hn : r.name.length ≤ 1000000000) (hbad : nameS r.name = false ∨ inRangeS r = false) :
    Calls Tryz.prog 36 #[rulV r pv] w fun e w' => e = .returned (.int .i64 (checkR r)) ∧ Below w.heap.size w w' := by
  obtain ⟨z, hz⟩ : ∃ z, z = checkR r := ⟨_, rfl⟩
  rw [← hz]
  obtain ⟨A, c, rfl, hc, hc2⟩ := h.shape
  have hA := RulAt.new h
  have hb0 : Below w.heap.size w (w.alloc (.cells (rulCells r (.slice A r.power.length c)) 25)) := Below.alloc (Below.refl _ _) (Nat.le_refl _) _
  have HB0 := Lib.hid hb0
  have hnm : ∀ W, Below w.heap.size w W → RulAt W w.heap.size r (.slice A r.power.length c) → Calls Tryz.prog 73 #[.string (S r.name)] W fun e W' => e = .returned (.bool (nameS r.name)) ∧ Below w.heap.size w W' ∧ RulAt W' w.heap.size r (.slice A r.power.length c) := fun W h1 h2 => by
    refine (ref_Name (S r.name) W (by simp only [S_size, maxLen]; omega)).mono ?_
    rintro e W' ⟨rfl, rfl⟩
    exact ⟨rfl, h1, h2⟩
  have HA := Lib.hid hA
  have H := Lib.hid h
  unfold rulCells at HA HB0
  have HNM := Lib.hid hnm
  clear h hA hb0 hnm
  unfold rulV rulCells
  cases h1 : nameS r.name
  · have hz2 : z = 5 := by rw [hz]; unfold checkR headErr; rw [if_pos h1]; rfl
    have HZ := Lib.hid hz2
    clear hz hz2 hbad
    as_aux_lemma =>
      go_enter Tryz.func36, Tryz.ntmps36
      go_wp2_with (go_at_call 73; refine (HNM.out _ HB0.out HA.out).mono ?_; rintro e w2 ⟨rfl, hb2, hr2⟩; obtain ⟨y0, y1, y2, y3, y4, y5, y6, y7, y8, y9, y10, y11, y12, y13⟩ := hr2.cells; have HB2 := Lib.hid hb2; have HR2 := Lib.hid hr2; clear hb2 hr2)
      go_ret
      exact ⟨ret_i HZ.out.symm, HB2.out⟩
  · have h2 : inRangeS r = false := by
      rcases hbad with h | h
      · rw [h1] at h; cases h
      · exact h
    have hz2 : z = 2 := by rw [hz]; exact checkR_rng h1 h2
    have HZ := Lib.hid hz2
    clear hz hz2 hbad
    unfold inRangeS at h2
    rcases andF h2 with h2 | ⟨h2, e10⟩
    rotate_left
    · simp only [Bool.and_eq_true] at h2
      obtain ⟨⟨⟨⟨⟨⟨⟨⟨⟨e0, e1⟩, e2⟩, e3⟩, e4⟩, e5⟩, e6⟩, e7⟩, e8⟩, e9⟩ := h2
      as_aux_lemma =>
        go_enter Tryz.func36, Tryz.ntmps36
        go_wp2_with (first | (go_at_call 73; refine (HNM.out _ HB0.out HA.out).mono ?_; rintro e w2 ⟨rfl, hb2, hr2⟩; obtain ⟨y0, y1, y2, y3, y4, y5, y6, y7, y8, y9, y10, y11, y12, y13⟩ := hr2.cells; have HB2 := Lib.hid hb2; have HR2 := Lib.hid hr2; clear hb2 hr2) | (go_at_call 74; refine (ref_in _ _ _ _).mono ?_; rintro e w3 ⟨rfl, rfl⟩))
        go_ret
        exact ⟨ret_i HZ.out.symm, HB2.out⟩
    rcases andF h2 with h2 | ⟨h2, e9⟩
    rotate_left
    · simp only [Bool.and_eq_true] at h2
      obtain ⟨⟨⟨⟨⟨⟨⟨⟨e0, e1⟩, e2⟩, e3⟩, e4⟩, e5⟩, e6⟩, e7⟩, e8⟩ := h2
      as_aux_lemma =>
        go_enter Tryz.func36, Tryz.ntmps36
        go_wp2_with (first | (go_at_call 73; refine (HNM.out _ HB0.out HA.out).mono ?_; rintro e w2 ⟨rfl, hb2, hr2⟩; obtain ⟨y0, y1, y2, y3, y4, y5, y6, y7, y8, y9, y10, y11, y12, y13⟩ := hr2.cells; have HB2 := Lib.hid hb2; have HR2 := Lib.hid hr2; clear hb2 hr2) | (go_at_call 74; refine (ref_in _ _ _ _).mono ?_; rintro e w3 ⟨rfl, rfl⟩))
        go_ret
        exact ⟨ret_i HZ.out.symm, HB2.out⟩
    rcases andF h2 with h2 | ⟨h2, e8⟩
    rotate_left
    · simp only [Bool.and_eq_true] at h2
      obtain ⟨⟨⟨⟨⟨⟨⟨e0, e1⟩, e2⟩, e3⟩, e4⟩, e5⟩, e6⟩, e7⟩ := h2
      as_aux_lemma =>
        go_enter Tryz.func36, Tryz.ntmps36
        go_wp2_with (first | (go_at_call 73; refine (HNM.out _ HB0.out HA.out).mono ?_; rintro e w2 ⟨rfl, hb2, hr2⟩; obtain ⟨y0, y1, y2, y3, y4, y5, y6, y7, y8, y9, y10, y11, y12, y13⟩ := hr2.cells; have HB2 := Lib.hid hb2; have HR2 := Lib.hid hr2; clear hb2 hr2) | (go_at_call 74; refine (ref_in _ _ _ _).mono ?_; rintro e w3 ⟨rfl, rfl⟩))
        go_ret
        exact ⟨ret_i HZ.out.symm, HB2.out⟩
    rcases andF h2 with h2 | ⟨h2, e7⟩
    rotate_left
    · simp only [Bool.and_eq_true] at h2
      obtain ⟨⟨⟨⟨⟨⟨e0, e1⟩, e2⟩, e3⟩, e4⟩, e5⟩, e6⟩ := h2
      as_aux_lemma =>
        go_enter Tryz.func36, Tryz.ntmps36
        go_wp2_with (first | (go_at_call 73; refine (HNM.out _ HB0.out HA.out).mono ?_; rintro e w2 ⟨rfl, hb2, hr2⟩; obtain ⟨y0, y1, y2, y3, y4, y5, y6, y7, y8, y9, y10, y11, y12, y13⟩ := hr2.cells; have HB2 := Lib.hid hb2; have HR2 := Lib.hid hr2; clear hb2 hr2) | (go_at_call 74; refine (ref_in _ _ _ _).mono ?_; rintro e w3 ⟨rfl, rfl⟩))
        go_ret
        exact ⟨ret_i HZ.out.symm, HB2.out⟩
    rcases andF h2 with h2 | ⟨h2, e6⟩
    rotate_left
    · simp only [Bool.and_eq_true] at h2
      obtain ⟨⟨⟨⟨⟨e0, e1⟩, e2⟩, e3⟩, e4⟩, e5⟩ := h2
      as_aux_lemma =>
        go_enter Tryz.func36, Tryz.ntmps36
        go_wp2_with (first | (go_at_call 73; refine (HNM.out _ HB0.out HA.out).mono ?_; rintro e w2 ⟨rfl, hb2, hr2⟩; obtain ⟨y0, y1, y2, y3, y4, y5, y6, y7, y8, y9, y10, y11, y12, y13⟩ := hr2.cells; have HB2 := Lib.hid hb2; have HR2 := Lib.hid hr2; clear hb2 hr2) | (go_at_call 74; refine (ref_in _ _ _ _).mono ?_; rintro e w3 ⟨rfl, rfl⟩))
        go_ret
        exact ⟨ret_i HZ.out.symm, HB2.out⟩
    rcases andF h2 with h2 | ⟨h2, e5⟩
    rotate_left
    · simp only [Bool.and_eq_true] at h2
      obtain ⟨⟨⟨⟨e0, e1⟩, e2⟩, e3⟩, e4⟩ := h2
      as_aux_lemma =>
        go_enter Tryz.func36, Tryz.ntmps36
        go_wp2_with (first | (go_at_call 73; refine (HNM.out _ HB0.out HA.out).mono ?_; rintro e w2 ⟨rfl, hb2, hr2⟩; obtain ⟨y0, y1, y2, y3, y4, y5, y6, y7, y8, y9, y10, y11, y12, y13⟩ := hr2.cells; have HB2 := Lib.hid hb2; have HR2 := Lib.hid hr2; clear hb2 hr2) | (go_at_call 74; refine (ref_in _ _ _ _).mono ?_; rintro e w3 ⟨rfl, rfl⟩))
        go_ret
        exact ⟨ret_i HZ.out.symm, HB2.out⟩
    rcases andF h2 with h2 | ⟨h2, e4⟩
    rotate_left
    · simp only [Bool.and_eq_true] at h2
      obtain ⟨⟨⟨e0, e1⟩, e2⟩, e3⟩ := h2
      as_aux_lemma =>
        go_enter Tryz.func36, Tryz.ntmps36
        go_wp2_with (first | (go_at_call 73; refine (HNM.out _ HB0.out HA.out).mono ?_; rintro e w2 ⟨rfl, hb2, hr2⟩; obtain ⟨y0, y1, y2, y3, y4, y5, y6, y7, y8, y9, y10, y11, y12, y13⟩ := hr2.cells; have HB2 := Lib.hid hb2; have HR2 := Lib.hid hr2; clear hb2 hr2) | (go_at_call 74; refine (ref_in _ _ _ _).mono ?_; rintro e w3 ⟨rfl, rfl⟩))
        go_ret
        exact ⟨ret_i HZ.out.symm, HB2.out⟩
    rcases andF h2 with h2 | ⟨h2, e3⟩
    rotate_left
    · simp only [Bool.and_eq_true] at h2
      obtain ⟨⟨e0, e1⟩, e2⟩ := h2
      as_aux_lemma =>
        go_enter Tryz.func36, Tryz.ntmps36
        go_wp2_with (first | (go_at_call 73; refine (HNM.out _ HB0.out HA.out).mono ?_; rintro e w2 ⟨rfl, hb2, hr2⟩; obtain ⟨y0, y1, y2, y3, y4, y5, y6, y7, y8, y9, y10, y11, y12, y13⟩ := hr2.cells; have HB2 := Lib.hid hb2; have HR2 := Lib.hid hr2; clear hb2 hr2) | (go_at_call 74; refine (ref_in _ _ _ _).mono ?_; rintro e w3 ⟨rfl, rfl⟩))
        go_ret
        exact ⟨ret_i HZ.out.symm, HB2.out⟩
    rcases andF h2 with h2 | ⟨h2, e2⟩
    rotate_left
    · simp only [Bool.and_eq_true] at h2
      obtain ⟨e0, e1⟩ := h2
      as_aux_lemma =>
        go_enter Tryz.func36, Tryz.ntmps36
        go_wp2_with (first | (go_at_call 73; refine (HNM.out _ HB0.out HA.out).mono ?_; rintro e w2 ⟨rfl, hb2, hr2⟩; obtain ⟨y0, y1, y2, y3, y4, y5, y6, y7, y8, y9, y10, y11, y12, y13⟩ := hr2.cells; have HB2 := Lib.hid hb2; have HR2 := Lib.hid hr2; clear hb2 hr2) | (go_at_call 74; refine (ref_in _ _ _ _).mono ?_; rintro e w3 ⟨rfl, rfl⟩))
        go_ret
        exact ⟨ret_i HZ.out.symm, HB2.out⟩
    rcases andF h2 with h2 | ⟨h2, e1⟩
    rotate_left
    · have e0 := h2
      as_aux_lemma =>
        go_enter Tryz.func36, Tryz.ntmps36
        go_wp2_with (first | (go_at_call 73; refine (HNM.out _ HB0.out HA.out).mono ?_; rintro e w2 ⟨rfl, hb2, hr2⟩; obtain ⟨y0, y1, y2, y3, y4, y5, y6, y7, y8, y9, y10, y11, y12, y13⟩ := hr2.cells; have HB2 := Lib.hid hb2; have HR2 := Lib.hid hr2; clear hb2 hr2) | (go_at_call 74; refine (ref_in _ _ _ _).mono ?_; rintro e w3 ⟨rfl, rfl⟩))
        go_ret
        exact ⟨ret_i HZ.out.symm, HB2.out⟩
    as_aux_lemma =>
      go_enter Tryz.func36, Tryz.ntmps36
      go_wp2_with (first | (go_at_call 73; refine (HNM.out _ HB0.out HA.out).mono ?_; rintro e w2 ⟨rfl, hb2, hr2⟩; obtain ⟨y0, y1, y2, y3, y4, y5, y6, y7, y8, y9, y10, y11, y12, y13⟩ := hr2.cells; have HB2 := Lib.hid hb2; have HR2 := Lib.hid hr2; clear hb2 hr2) | (go_at_call 74; refine (ref_in _ _ _ _).mono ?_; rintro e w3 ⟨rfl, rfl⟩))
      go_ret
      exact ⟨ret_i HZ.out.symm, HB2.out⟩
set_option maxRecDepth 100000 in
set_option maxHeartbeats 4000000 in
theorem ref_RCheck_A (r : Rul) (pv : Value) (w : World) (h : Sl 3 elPha w (· < w.heap.size) pv r.power) (hn : r.name.length ≤ 1000000000) (h1 : nameS r.name = true) (h2 : inRangeS r = true) (f1 : (r.follow != 0) = true) (f2 : (r.inns == 1) = true) :
    Calls Tryz.prog 36 #[rulV r pv] w fun e w' => e = .returned (.int .i64 1) ∧ Below w.heap.size w w' := by
  obtain ⟨A, c, rfl, hc, hc2⟩ := h.shape
  have hA := RulAt.new h
  have hb0 : Below w.heap.size w (w.alloc (.cells (rulCells r (.slice A r.power.length c)) 25)) := Below.alloc (Below.refl _ _) (Nat.le_refl _) _
  have HB0 := Lib.hid hb0
  have hnm : ∀ W, Below w.heap.size w W → RulAt W w.heap.size r (.slice A r.power.length c) → Calls Tryz.prog 73 #[.string (S r.name)] W fun e W' => e = .returned (.bool (nameS r.name)) ∧ Below w.heap.size w W' ∧ RulAt W' w.heap.size r (.slice A r.power.length c) := fun W h1 h2 => by
    refine (ref_Name (S r.name) W (by simp only [S_size, maxLen]; omega)).mono ?_
    rintro e W' ⟨rfl, rfl⟩
    exact ⟨rfl, h1, h2⟩
  have HA := Lib.hid hA
  have H := Lib.hid h
  unfold rulCells at HA HB0
  have HNM := Lib.hid hnm
  clear h hA hb0 hnm
  unfold rulV rulCells
  obtain ⟨⟨a1, a2⟩, _, ⟨a3, a4⟩, _, ⟨a5, a6⟩, _⟩ := (inRangeS_iff r).1 h2
  have m1 : 0 ≤ r.quota * r.side := Int.mul_nonneg a5 (by omega)
  have m2 : r.quota * r.side ≤ 990 := by
    have := Int.mul_le_mul a6 a2 (by omega) (by omega)
    omega
  unfold inRangeS at h2
  simp only [Bool.and_eq_true] at h2
  obtain ⟨⟨⟨⟨⟨⟨⟨⟨⟨⟨e0, e1⟩, e2⟩, e3⟩, e4⟩, e5⟩, e6⟩, e7⟩, e8⟩, e9⟩, e10⟩ := h2
  go_enter Tryz.func36, Tryz.ntmps36
  go_wp2_with (first | (go_at_call 73; refine (HNM.out _ HB0.out HA.out).mono ?_; rintro e w2 ⟨rfl, hb2, hr2⟩; obtain ⟨y0, y1, y2, y3, y4, y5, y6, y7, y8, y9, y10, y11, y12, y13⟩ := hr2.cells; have HB2 := Lib.hid hb2; have HR2 := Lib.hid hr2; clear hb2 hr2) | (go_at_call 74; refine (ref_in _ _ _ _).mono ?_; rintro e w3 ⟨rfl, rfl⟩))
  go_ret
  exact ⟨rfl, HB2.out⟩
set_option maxRecDepth 100000 in
set_option maxHeartbeats 4000000 in
theorem ref_RCheck_B1 (r : Rul) (pv : Value) (w : World) (h : Sl 3 elPha w (· < w.heap.size) pv r.power) (hn : r.name.length ≤ 1000000000) (h1 : nameS r.name = true) (h2 : inRangeS r = true) (f1 : (r.follow != 0) = true) (f2 : (r.inns == 1) = false) (o1 : (r.overs == 0) = true) (q1 : (r.quota != 0) = true) :
    Calls Tryz.prog 36 #[rulV r pv] w fun e w' => e = .returned (.int .i64 1) ∧ Below w.heap.size w w' := by
  obtain ⟨A, c, rfl, hc, hc2⟩ := h.shape
  have hA := RulAt.new h
  have hb0 : Below w.heap.size w (w.alloc (.cells (rulCells r (.slice A r.power.length c)) 25)) := Below.alloc (Below.refl _ _) (Nat.le_refl _) _
  have HB0 := Lib.hid hb0
  have hnm : ∀ W, Below w.heap.size w W → RulAt W w.heap.size r (.slice A r.power.length c) → Calls Tryz.prog 73 #[.string (S r.name)] W fun e W' => e = .returned (.bool (nameS r.name)) ∧ Below w.heap.size w W' ∧ RulAt W' w.heap.size r (.slice A r.power.length c) := fun W h1 h2 => by
    refine (ref_Name (S r.name) W (by simp only [S_size, maxLen]; omega)).mono ?_
    rintro e W' ⟨rfl, rfl⟩
    exact ⟨rfl, h1, h2⟩
  have HA := Lib.hid hA
  have H := Lib.hid h
  unfold rulCells at HA HB0
  have HNM := Lib.hid hnm
  clear h hA hb0 hnm
  unfold rulV rulCells
  obtain ⟨⟨a1, a2⟩, _, ⟨a3, a4⟩, _, ⟨a5, a6⟩, _⟩ := (inRangeS_iff r).1 h2
  have m1 : 0 ≤ r.quota * r.side := Int.mul_nonneg a5 (by omega)
  have m2 : r.quota * r.side ≤ 990 := by
    have := Int.mul_le_mul a6 a2 (by omega) (by omega)
    omega
  unfold inRangeS at h2
  simp only [Bool.and_eq_true] at h2
  obtain ⟨⟨⟨⟨⟨⟨⟨⟨⟨⟨e0, e1⟩, e2⟩, e3⟩, e4⟩, e5⟩, e6⟩, e7⟩, e8⟩, e9⟩, e10⟩ := h2
  go_enter Tryz.func36, Tryz.ntmps36
  go_wp2_with (first | (go_at_call 73; refine (HNM.out _ HB0.out HA.out).mono ?_; rintro e w2 ⟨rfl, hb2, hr2⟩; obtain ⟨y0, y1, y2, y3, y4, y5, y6, y7, y8, y9, y10, y11, y12, y13⟩ := hr2.cells; have HB2 := Lib.hid hb2; have HR2 := Lib.hid hr2; clear hb2 hr2) | (go_at_call 74; refine (ref_in _ _ _ _).mono ?_; rintro e w3 ⟨rfl, rfl⟩))
  go_ret
  exact ⟨rfl, HB2.out⟩
set_option maxRecDepth 100000 in
set_option maxHeartbeats 4000000 in
theorem ref_RCheck_B2 (r : Rul) (pv : Value) (w : World) (h : Sl 3 elPha w (· < w.heap.size) pv r.power) (hn : r.name.length ≤ 1000000000) (h1 : nameS r.name = true) (h2 : inRangeS r = true) (f1 : (r.follow != 0) = true) (f2 : (r.inns == 1) = false) (o1 : (r.overs == 0) = true) (q1 : (r.quota != 0) = false) (l1 : decide (0 < r.power.length) = true) (l2 : decide ((0 : Int) < (r.power.length : Int)) = true) :
    Calls Tryz.prog 36 #[rulV r pv] w fun e w' => e = .returned (.int .i64 1) ∧ Below w.heap.size w w' := by
  obtain ⟨A, c, rfl, hc, hc2⟩ := h.shape
  have hA := RulAt.new h
  have hb0 : Below w.heap.size w (w.alloc (.cells (rulCells r (.slice A r.power.length c)) 25)) := Below.alloc (Below.refl _ _) (Nat.le_refl _) _
  have HB0 := Lib.hid hb0
  have hnm : ∀ W, Below w.heap.size w W → RulAt W w.heap.size r (.slice A r.power.length c) → Calls Tryz.prog 73 #[.string (S r.name)] W fun e W' => e = .returned (.bool (nameS r.name)) ∧ Below w.heap.size w W' ∧ RulAt W' w.heap.size r (.slice A r.power.length c) := fun W h1 h2 => by
    refine (ref_Name (S r.name) W (by simp only [S_size, maxLen]; omega)).mono ?_
    rintro e W' ⟨rfl, rfl⟩
    exact ⟨rfl, h1, h2⟩
  have HA := Lib.hid hA
  have H := Lib.hid h
  unfold rulCells at HA HB0
  have HNM := Lib.hid hnm
  clear h hA hb0 hnm
  unfold rulV rulCells
  obtain ⟨⟨a1, a2⟩, _, ⟨a3, a4⟩, _, ⟨a5, a6⟩, _⟩ := (inRangeS_iff r).1 h2
  have m1 : 0 ≤ r.quota * r.side := Int.mul_nonneg a5 (by omega)
  have m2 : r.quota * r.side ≤ 990 := by
    have := Int.mul_le_mul a6 a2 (by omega) (by omega)
    omega
  unfold inRangeS at h2
  simp only [Bool.and_eq_true] at h2
  obtain ⟨⟨⟨⟨⟨⟨⟨⟨⟨⟨e0, e1⟩, e2⟩, e3⟩, e4⟩, e5⟩, e6⟩, e7⟩, e8⟩, e9⟩, e10⟩ := h2
  go_enter Tryz.func36, Tryz.ntmps36
  go_wp2_with (first | (go_at_call 73; refine (HNM.out _ HB0.out HA.out).mono ?_; rintro e w2 ⟨rfl, hb2, hr2⟩; obtain ⟨y0, y1, y2, y3, y4, y5, y6, y7, y8, y9, y10, y11, y12, y13⟩ := hr2.cells; have HB2 := Lib.hid hb2; have HR2 := Lib.hid hr2; clear hb2 hr2) | (go_at_call 74; refine (ref_in _ _ _ _).mono ?_; rintro e w3 ⟨rfl, rfl⟩))
  go_ret
  exact ⟨rfl, HB2.out⟩
set_option maxRecDepth 100000 in
set_option maxHeartbeats 4000000 in
theorem ref_RCheck_B4 (r : Rul) (pv : Value) (w : World) (h : Sl 3 elPha w (· < w.heap.size) pv r.power) (hn : r.name.length ≤ 1000000000) (h1 : nameS r.name = true) (h2 : inRangeS r = true) (f1 : (r.follow != 0) = true) (f2 : (r.inns == 1) = false) (o1 : (r.overs == 0) = false) (q1 : (r.quota != 0) = true) (p1 : (decide (r.quota * r.side < r.overs)) = true) :
    Calls Tryz.prog 36 #[rulV r pv] w fun e w' => e = .returned (.int .i64 13) ∧ Below w.heap.size w w' := by
  obtain ⟨A, c, rfl, hc, hc2⟩ := h.shape
  have hA := RulAt.new h
  have hb0 : Below w.heap.size w (w.alloc (.cells (rulCells r (.slice A r.power.length c)) 25)) := Below.alloc (Below.refl _ _) (Nat.le_refl _) _
  have HB0 := Lib.hid hb0
  have hnm : ∀ W, Below w.heap.size w W → RulAt W w.heap.size r (.slice A r.power.length c) → Calls Tryz.prog 73 #[.string (S r.name)] W fun e W' => e = .returned (.bool (nameS r.name)) ∧ Below w.heap.size w W' ∧ RulAt W' w.heap.size r (.slice A r.power.length c) := fun W h1 h2 => by
    refine (ref_Name (S r.name) W (by simp only [S_size, maxLen]; omega)).mono ?_
    rintro e W' ⟨rfl, rfl⟩
    exact ⟨rfl, h1, h2⟩
  have HA := Lib.hid hA
  have H := Lib.hid h
  unfold rulCells at HA HB0
  have HNM := Lib.hid hnm
  clear h hA hb0 hnm
  unfold rulV rulCells
  obtain ⟨⟨a1, a2⟩, _, ⟨a3, a4⟩, _, ⟨a5, a6⟩, _⟩ := (inRangeS_iff r).1 h2
  have m1 : 0 ≤ r.quota * r.side := Int.mul_nonneg a5 (by omega)
  have m2 : r.quota * r.side ≤ 990 := by
    have := Int.mul_le_mul a6 a2 (by omega) (by omega)
    omega
  unfold inRangeS at h2
  simp only [Bool.and_eq_true] at h2
  obtain ⟨⟨⟨⟨⟨⟨⟨⟨⟨⟨e0, e1⟩, e2⟩, e3⟩, e4⟩, e5⟩, e6⟩, e7⟩, e8⟩, e9⟩, e10⟩ := h2
  go_enter Tryz.func36, Tryz.ntmps36
  go_wp2_with (first | (go_at_call 73; refine (HNM.out _ HB0.out HA.out).mono ?_; rintro e w2 ⟨rfl, hb2, hr2⟩; obtain ⟨y0, y1, y2, y3, y4, y5, y6, y7, y8, y9, y10, y11, y12, y13⟩ := hr2.cells; have HB2 := Lib.hid hb2; have HR2 := Lib.hid hr2; clear hb2 hr2) | (go_at_call 74; refine (ref_in _ _ _ _).mono ?_; rintro e w3 ⟨rfl, rfl⟩))
  go_ret
  exact ⟨rfl, HB2.out⟩
set_option maxRecDepth 100000 in
set_option maxHeartbeats 4000000 in
theorem ref_RCheck_C1 (r : Rul) (pv : Value) (w : World) (h : Sl 3 elPha w (· < w.heap.size) pv r.power) (hn : r.name.length ≤ 1000000000) (h1 : nameS r.name = true) (h2 : inRangeS r = true) (f1 : (r.follow != 0) = false) (o1 : (r.overs == 0) = true) (q1 : (r.quota != 0) = true) :
    Calls Tryz.prog 36 #[rulV r pv] w fun e w' => e = .returned (.int .i64 1) ∧ Below w.heap.size w w' := by
  obtain ⟨A, c, rfl, hc, hc2⟩ := h.shape
  have hA := RulAt.new h
  have hb0 : Below w.heap.size w (w.alloc (.cells (rulCells r (.slice A r.power.length c)) 25)) := Below.alloc (Below.refl _ _) (Nat.le_refl _) _
  have HB0 := Lib.hid hb0
  have hnm : ∀ W, Below w.heap.size w W → RulAt W w.heap.size r (.slice A r.power.length c) → Calls Tryz.prog 73 #[.string (S r.name)] W fun e W' => e = .returned (.bool (nameS r.name)) ∧ Below w.heap.size w W' ∧ RulAt W' w.heap.size r (.slice A r.power.length c) := fun W h1 h2 => by
    refine (ref_Name (S r.name) W (by simp only [S_size, maxLen]; omega)).mono ?_
    rintro e W' ⟨rfl, rfl⟩
    exact ⟨rfl, h1, h2⟩
  have HA := Lib.hid hA
  have H := Lib.hid h
  unfold rulCells at HA HB0
  have HNM := Lib.hid hnm
  clear h hA hb0 hnm
  unfold rulV rulCells
  obtain ⟨⟨a1, a2⟩, _, ⟨a3, a4⟩, _, ⟨a5, a6⟩, _⟩ := (inRangeS_iff r).1 h2
  have m1 : 0 ≤ r.quota * r.side := Int.mul_nonneg a5 (by omega)
  have m2 : r.quota * r.side ≤ 990 := by
    have := Int.mul_le_mul a6 a2 (by omega) (by omega)
    omega
  unfold inRangeS at h2
  simp only [Bool.and_eq_true] at h2
  obtain ⟨⟨⟨⟨⟨⟨⟨⟨⟨⟨e0, e1⟩, e2⟩, e3⟩, e4⟩, e5⟩, e6⟩, e7⟩, e8⟩, e9⟩, e10⟩ := h2
  go_enter Tryz.func36, Tryz.ntmps36
  go_wp2_with (first | (go_at_call 73; refine (HNM.out _ HB0.out HA.out).mono ?_; rintro e w2 ⟨rfl, hb2, hr2⟩; obtain ⟨y0, y1, y2, y3, y4, y5, y6, y7, y8, y9, y10, y11, y12, y13⟩ := hr2.cells; have HB2 := Lib.hid hb2; have HR2 := Lib.hid hr2; clear hb2 hr2) | (go_at_call 74; refine (ref_in _ _ _ _).mono ?_; rintro e w3 ⟨rfl, rfl⟩))
  go_ret
  exact ⟨rfl, HB2.out⟩
set_option maxRecDepth 100000 in
set_option maxHeartbeats 4000000 in
theorem ref_RCheck_C2 (r : Rul) (pv : Value) (w : World) (h : Sl 3 elPha w (· < w.heap.size) pv r.power) (hn : r.name.length ≤ 1000000000) (h1 : nameS r.name = true) (h2 : inRangeS r = true) (f1 : (r.follow != 0) = false) (o1 : (r.overs == 0) = true) (q1 : (r.quota != 0) = false) (l1 : decide (0 < r.power.length) = true) (l2 : decide ((0 : Int) < (r.power.length : Int)) = true) :
    Calls Tryz.prog 36 #[rulV r pv] w fun e w' => e = .returned (.int .i64 1) ∧ Below w.heap.size w w' := by
  obtain ⟨A, c, rfl, hc, hc2⟩ := h.shape
  have hA := RulAt.new h
  have hb0 : Below w.heap.size w (w.alloc (.cells (rulCells r (.slice A r.power.length c)) 25)) := Below.alloc (Below.refl _ _) (Nat.le_refl _) _
  have HB0 := Lib.hid hb0
  have hnm : ∀ W, Below w.heap.size w W → RulAt W w.heap.size r (.slice A r.power.length c) → Calls Tryz.prog 73 #[.string (S r.name)] W fun e W' => e = .returned (.bool (nameS r.name)) ∧ Below w.heap.size w W' ∧ RulAt W' w.heap.size r (.slice A r.power.length c) := fun W h1 h2 => by
    refine (ref_Name (S r.name) W (by simp only [S_size, maxLen]; omega)).mono ?_
    rintro e W' ⟨rfl, rfl⟩
    exact ⟨rfl, h1, h2⟩
  have HA := Lib.hid hA
  have H := Lib.hid h
  unfold rulCells at HA HB0
  have HNM := Lib.hid hnm
  clear h hA hb0 hnm
  unfold rulV rulCells
  obtain ⟨⟨a1, a2⟩, _, ⟨a3, a4⟩, _, ⟨a5, a6⟩, _⟩ := (inRangeS_iff r).1 h2
  have m1 : 0 ≤ r.quota * r.side := Int.mul_nonneg a5 (by omega)
  have m2 : r.quota * r.side ≤ 990 := by
    have := Int.mul_le_mul a6 a2 (by omega) (by omega)
    omega
  unfold inRangeS at h2
  simp only [Bool.and_eq_true] at h2
  obtain ⟨⟨⟨⟨⟨⟨⟨⟨⟨⟨e0, e1⟩, e2⟩, e3⟩, e4⟩, e5⟩, e6⟩, e7⟩, e8⟩, e9⟩, e10⟩ := h2
  go_enter Tryz.func36, Tryz.ntmps36
  go_wp2_with (first | (go_at_call 73; refine (HNM.out _ HB0.out HA.out).mono ?_; rintro e w2 ⟨rfl, hb2, hr2⟩; obtain ⟨y0, y1, y2, y3, y4, y5, y6, y7, y8, y9, y10, y11, y12, y13⟩ := hr2.cells; have HB2 := Lib.hid hb2; have HR2 := Lib.hid hr2; clear hb2 hr2) | (go_at_call 74; refine (ref_in _ _ _ _).mono ?_; rintro e w3 ⟨rfl, rfl⟩))
  go_ret
  exact ⟨rfl, HB2.out⟩
set_option maxRecDepth 100000 in
set_option maxHeartbeats 4000000 in
theorem ref_RCheck_C4 (r : Rul) (pv : Value) (w : World) (h : Sl 3 elPha w (· < w.heap.size) pv r.power) (hn : r.name.length ≤ 1000000000) (h1 : nameS r.name = true) (h2 : inRangeS r = true) (f1 : (r.follow != 0) = false) (o1 : (r.overs == 0) = false) (q1 : (r.quota != 0) = true) (p1 : (decide (r.quota * r.side < r.overs)) = true) :
    Calls Tryz.prog 36 #[rulV r pv] w fun e w' => e = .returned (.int .i64 13) ∧ Below w.heap.size w w' := by
  obtain ⟨A, c, rfl, hc, hc2⟩ := h.shape
  have hA := RulAt.new h
  have hb0 : Below w.heap.size w (w.alloc (.cells (rulCells r (.slice A r.power.length c)) 25)) := Below.alloc (Below.refl _ _) (Nat.le_refl _) _
  have HB0 := Lib.hid hb0
  have hnm : ∀ W, Below w.heap.size w W → RulAt W w.heap.size r (.slice A r.power.length c) → Calls Tryz.prog 73 #[.string (S r.name)] W fun e W' => e = .returned (.bool (nameS r.name)) ∧ Below w.heap.size w W' ∧ RulAt W' w.heap.size r (.slice A r.power.length c) := fun W h1 h2 => by
    refine (ref_Name (S r.name) W (by simp only [S_size, maxLen]; omega)).mono ?_
    rintro e W' ⟨rfl, rfl⟩
    exact ⟨rfl, h1, h2⟩
  have HA := Lib.hid hA
  have H := Lib.hid h
  unfold rulCells at HA HB0
  have HNM := Lib.hid hnm
  clear h hA hb0 hnm
  unfold rulV rulCells
  obtain ⟨⟨a1, a2⟩, _, ⟨a3, a4⟩, _, ⟨a5, a6⟩, _⟩ := (inRangeS_iff r).1 h2
  have m1 : 0 ≤ r.quota * r.side := Int.mul_nonneg a5 (by omega)
  have m2 : r.quota * r.side ≤ 990 := by
    have := Int.mul_le_mul a6 a2 (by omega) (by omega)
    omega
  unfold inRangeS at h2
  simp only [Bool.and_eq_true] at h2
  obtain ⟨⟨⟨⟨⟨⟨⟨⟨⟨⟨e0, e1⟩, e2⟩, e3⟩, e4⟩, e5⟩, e6⟩, e7⟩, e8⟩, e9⟩, e10⟩ := h2
  go_enter Tryz.func36, Tryz.ntmps36
  go_wp2_with (first | (go_at_call 73; refine (HNM.out _ HB0.out HA.out).mono ?_; rintro e w2 ⟨rfl, hb2, hr2⟩; obtain ⟨y0, y1, y2, y3, y4, y5, y6, y7, y8, y9, y10, y11, y12, y13⟩ := hr2.cells; have HB2 := Lib.hid hb2; have HR2 := Lib.hid hr2; clear hb2 hr2) | (go_at_call 74; refine (ref_in _ _ _ _).mono ?_; rintro e w3 ⟨rfl, rfl⟩))
  go_ret
  exact ⟨rfl, HB2.out⟩
end Go.Proofs.YtglkejlimeakbaaGreatDoor

namespace Go.Proofs.YtglkejlimeakbaaGreatDoor
open Go.RowKit

set_option maxRecDepth 100000 in
set_option maxHeartbeats 4000000 in
theorem ref_RCheck_B3 (r : Rul) (pv : Value) (w : World) (h : Sl 3 elPha w (· < w.heap.size) pv r.power) (hn : r.name.length ≤ 1000000000) (h1 : nameS r.name = true) (h2 : inRangeS r = true) (f1 : (r.follow != 0) = true) (f2 : (r.inns == 1) = false) (o1 : (r.overs == 0) = true) (q1 : (r.quota != 0) = false) (l1 : decide (0 < r.power.length) = false) (l2 : decide ((0 : Int) < (r.power.length : Int)) = false) :
    Calls Tryz.prog 36 #[rulV r pv] w fun e w' => e = .returned (.int .i64 (phasesS r)) ∧ Below w.heap.size w w' := by
  obtain ⟨z, hz⟩ : ∃ z, z = phasesS r := ⟨_, rfl⟩
  rw [← hz]
  unfold phasesS at hz
  obtain ⟨A, c, rfl, hc, hc2⟩ := h.shape
  have hA := RulAt.new h
  have hb0 : Below w.heap.size w (w.alloc (.cells (rulCells r (.slice A r.power.length c)) 25)) := Below.alloc (Below.refl _ _) (Nat.le_refl _) _
  have HB0 := Lib.hid hb0
  have hnm : ∀ W, Below w.heap.size w W → RulAt W w.heap.size r (.slice A r.power.length c) → Calls Tryz.prog 73 #[.string (S r.name)] W fun e W' => e = .returned (.bool (nameS r.name)) ∧ Below w.heap.size w W' ∧ RulAt W' w.heap.size r (.slice A r.power.length c) := fun W h1 h2 => by
    refine (ref_Name (S r.name) W (by simp only [S_size, maxLen]; omega)).mono ?_
    rintro e W' ⟨rfl, rfl⟩
    exact ⟨rfl, h1, h2⟩
  have HA := Lib.hid hA
  have H := Lib.hid h
  unfold rulCells at HA HB0
  have HNM := Lib.hid hnm
  clear h hA hb0 hnm
  unfold rulV rulCells
  obtain ⟨⟨a1, a2⟩, _, ⟨a3, a4⟩, _, ⟨a5, a6⟩, _⟩ := (inRangeS_iff r).1 h2
  have m1 : 0 ≤ r.quota * r.side := Int.mul_nonneg a5 (by omega)
  have m2 : r.quota * r.side ≤ 990 := by
    have := Int.mul_le_mul a6 a2 (by omega) (by omega)
    omega
  unfold inRangeS at h2
  simp only [Bool.and_eq_true] at h2
  obtain ⟨⟨⟨⟨⟨⟨⟨⟨⟨⟨e0, e1⟩, e2⟩, e3⟩, e4⟩, e5⟩, e6⟩, e7⟩, e8⟩, e9⟩, e10⟩ := h2
  by_cases h8 : 8 < r.power.length
  · rw [if_pos h8] at hz
    have HZ := Lib.hid hz
    have h8' : (8 : Int) < (r.power.length : Int) := by omega
    clear hz
    as_aux_lemma =>
      go_enter Tryz.func36, Tryz.ntmps36
      go_wp2_with (first | (go_at_call 73; refine (HNM.out _ HB0.out HA.out).mono ?_; rintro e w2 ⟨rfl, hb2, hr2⟩; obtain ⟨y0, y1, y2, y3, y4, y5, y6, y7, y8, y9, y10, y11, y12, y13⟩ := hr2.cells; have HB2 := Lib.hid hb2; have HR2 := Lib.hid hr2; clear hb2 hr2) | (go_at_call 74; refine (ref_in _ _ _ _).mono ?_; rintro e w3 ⟨rfl, rfl⟩))
      go_ret
      exact ⟨ret_i HZ.out.symm, HB2.out⟩
  · rw [if_neg h8] at hz
    have h8' : (r.power.length : Int) ≤ 8 := by omega
    have HZ := Lib.hid hz
    clear hz
    go_enter Tryz.func36, Tryz.ntmps36
    go_wp2_with (first | (go_at_call 73; refine (HNM.out _ HB0.out HA.out).mono ?_; rintro e w2 ⟨rfl, hb2, hr2⟩; obtain ⟨y0, y1, y2, y3, y4, y5, y6, y7, y8, y9, y10, y11, y12, y13⟩ := hr2.cells; have HB2 := Lib.hid hb2; have HR2 := Lib.hid hr2; clear hb2 hr2) | (go_at_call 74; refine (ref_in _ _ _ _).mono ?_; rintro e w3 ⟨rfl, rfl⟩))
    clear f1 f2 o1 q1 l1 l2 e0 e1 e2 e3 e4 e5 e6 e7 e8 e9 e10 h1 m1 m2 a1 a2 a3 a4 a5 a6 y0 y1 y2 y3 y4 y5 y6 y7 y8 y9 y10 y11 y12 y13
    go_loopw [117] (fun i wr => ∃ k : Nat, k ≤ r.power.length ∧ i = .int .i64 k ∧ Below w.heap.size w wr ∧ RulAt wr w.heap.size r (.slice A r.power.length c) ∧ Hid (z = phasesF r.overs (r.power.drop k) (prevP r.power k)))
      (fun i _ => r.power.length - (intOf i).toNat)
    case atStart => exact ⟨0, Nat.zero_le _, rfl, HB2.out, HR2.out, HZ.out⟩
    case round =>
      obtain ⟨k, hk, rfl, hb, ha, hzz⟩ := hrel
      have HB := Lib.hid hb
      have HAA := Lib.hid ha
      by_cases hlt : k < r.power.length
      · obtain ⟨b, o, rfl, hbl, y0, y1, y2⟩ := pha_at ha.sl hlt
        have hzz' := hzz.out
        rw [phasesF_at hlt] at hzz'
        obtain ⟨⟨pf, pt, po⟩, hp⟩ : ∃ p, p = r.power[k] := ⟨_, rfl⟩
        rw [← hp] at y0 y1 y2 hzz'
        have hkb := ha.blk
        have hg := hkb.lt
        unfold rulCells at hkb
        have x3 := hkb.cell 3
        have x13 := hkb.cell 13
        simp only [List.getElem?_toArray, List.getElem?_cons_zero, List.getElem?_cons_succ] at x3 x13
        have HP := Lib.hid hp
        rcases phaB_ways r.overs ⟨pf, pt, po⟩ with ⟨hB, hw⟩ | ⟨hB, e1, e2, e3, e4⟩
        · have hz2 : z = 2 := by rw [hzz', phaErr_two hB]; rfl
          have HZZ := Lib.hid hz2
          clear hb ha hzz hzz' hkb hp hz2 hB
          rcases hw with e1 | ⟨e1, e2⟩ | ⟨e1, e2, e3⟩ | ⟨e1, e2, e3, e4⟩
          all_goals
            dsimp only at *
            go_wp2_with (go_at_call 74; refine (ref_in _ _ _ _).mono ?_; rintro e w2 ⟨rfl, rfl⟩)
            go_ret
            exact ⟨ret_i HZZ.out.symm, Below.alloc HB.out HB.out.size _⟩
        · dsimp only at e1 e2 e3 e4
          by_cases hk0 : k = 0
          · have hz2 : z = phasesF r.overs (r.power.drop (k + 1)) (prevP r.power (k + 1)) := by
              rw [hzz', hk0, prevP_zero, phaErr_none hB]; rfl
            have HZZ := Lib.hid hz2
            have g1 : decide ((0 : Int) < (k : Int)) = false := decide_eq_false (by omega)
            have g2 : decide (0 < k) = false := decide_eq_false (by omega)
            clear hb ha hzz hzz' hkb hp hz2 hB hk0
            go_wp2_with (go_at_call 74; refine (ref_in _ _ _ _).mono ?_; rintro e w2 ⟨rfl, rfl⟩)
            go_quiet (fail)
            go_wp2
            go_roundw
            case rel => exact ⟨k + 1, by omega, by go_num, Below.drewN_ (Below.alloc HB.out HB.out.size _) _, HAA.out.below (Below.drewN_ (Below.alloc (Below.refl _ _) (Nat.le_refl _) _) _), HZZ.out⟩
            case measure => simp [intOf]; omega
          · obtain ⟨b', o', hbo, hbl', q0, q1, q2⟩ := pha_at ha.sl (k := k - 1) (by omega)
            simp only [Option.some.injEq, Addr.mk.injEq] at hbo
            obtain ⟨rfl, rfl, _⟩ := hbo
            obtain ⟨x, hx⟩ : ∃ x, x = r.power[k - 1]'(by omega) := ⟨_, rfl⟩
            have hz2 : z = if (if pf ≤ x.til then (8 : Int) else 0) ≠ 0 then (if pf ≤ x.til then (8 : Int) else 0) else phasesF r.overs (r.power.drop (k + 1)) (prevP r.power (k + 1)) := by
              rw [hzz', prevP_succ hk0 (by omega), phaErr_some hB, ← hx]
            rw [← hx] at q0 q1 q2
            have g1 : decide ((0 : Int) < (k : Int)) = true := decide_eq_true (by omega)
            have g2 : decide (0 < k) = true := decide_eq_true (by omega)
            have s1 : IntKind.i64.wrap ((k : Int) - 1) = (k : Int) - 1 := IntWalk.i64_in _ (by omega)
            have s2 : (0 : Int) ≤ (k : Int) - 1 := by omega
            have s3 : ((k : Int) - 1).toNat = k - 1 := by omega
            have s4 : (k : Int) - 1 < (r.power.length : Int) := by omega
            by_cases hle : pf ≤ x.til
            · rw [if_pos hle, if_pos (by decide)] at hz2
              have HZZ := Lib.hid hz2
              have g3 : decide (pf ≤ x.til) = true := decide_eq_true hle
              clear hb ha hzz hzz' hkb hp hz2 hB hk0 hx
              go_wp2_with (go_at_call 74; refine (ref_in _ _ _ _).mono ?_; rintro e w2 ⟨rfl, rfl⟩)
              go_quiet (fail)
              go_wp2
              go_ret
              exact ⟨ret_i HZZ.out.symm, Below.drewN_ (Below.alloc HB.out HB.out.size _) _⟩
            · rw [if_neg hle, if_neg (by decide)] at hz2
              have HZZ := Lib.hid hz2
              have g3 : decide (pf ≤ x.til) = false := decide_eq_false hle
              clear hb ha hzz hzz' hkb hp hz2 hB hk0 hx
              go_wp2_with (go_at_call 74; refine (ref_in _ _ _ _).mono ?_; rintro e w2 ⟨rfl, rfl⟩)
              go_quiet (fail)
              go_wp2
              go_roundw
              case rel => exact ⟨k + 1, by omega, by go_num, Below.drewN_ (Below.alloc HB.out HB.out.size _) _, HAA.out.below (Below.drewN_ (Below.alloc (Below.refl _ _) (Nat.le_refl _) _) _), HZZ.out⟩
              case measure => simp [intOf]; omega
      · obtain rfl : k = r.power.length := by omega
        have hzz' := hzz.out
        rw [phasesF_end (Nat.le_refl _)] at hzz'
        have HZZ := Lib.hid hzz'
        clear hb ha hzz hzz'
        go_wp2
        go_ret
        exact ⟨ret_i HZZ.out.symm, HB.out⟩
set_option maxRecDepth 100000 in
set_option maxHeartbeats 4000000 in
theorem ref_RCheck_B5 (r : Rul) (pv : Value) (w : World) (h : Sl 3 elPha w (· < w.heap.size) pv r.power) (hn : r.name.length ≤ 1000000000) (h1 : nameS r.name = true) (h2 : inRangeS r = true) (f1 : (r.follow != 0) = true) (f2 : (r.inns == 1) = false) (o1 : (r.overs == 0) = false) (q1 : (r.quota != 0) = true) (p1 : (decide (r.quota * r.side < r.overs)) = false) :
    Calls Tryz.prog 36 #[rulV r pv] w fun e w' => e = .returned (.int .i64 (phasesS r)) ∧ Below w.heap.size w w' := by
  obtain ⟨z, hz⟩ : ∃ z, z = phasesS r := ⟨_, rfl⟩
  rw [← hz]
  unfold phasesS at hz
  obtain ⟨A, c, rfl, hc, hc2⟩ := h.shape
  have hA := RulAt.new h
  have hb0 : Below w.heap.size w (w.alloc (.cells (rulCells r (.slice A r.power.length c)) 25)) := Below.alloc (Below.refl _ _) (Nat.le_refl _) _
  have HB0 := Lib.hid hb0
  have hnm : ∀ W, Below w.heap.size w W → RulAt W w.heap.size r (.slice A r.power.length c) → Calls Tryz.prog 73 #[.string (S r.name)] W fun e W' => e = .returned (.bool (nameS r.name)) ∧ Below w.heap.size w W' ∧ RulAt W' w.heap.size r (.slice A r.power.length c) := fun W h1 h2 => by
    refine (ref_Name (S r.name) W (by simp only [S_size, maxLen]; omega)).mono ?_
    rintro e W' ⟨rfl, rfl⟩
    exact ⟨rfl, h1, h2⟩
  have HA := Lib.hid hA
  have H := Lib.hid h
  unfold rulCells at HA HB0
  have HNM := Lib.hid hnm
  clear h hA hb0 hnm
  unfold rulV rulCells
  obtain ⟨⟨a1, a2⟩, _, ⟨a3, a4⟩, _, ⟨a5, a6⟩, _⟩ := (inRangeS_iff r).1 h2
  have m1 : 0 ≤ r.quota * r.side := Int.mul_nonneg a5 (by omega)
  have m2 : r.quota * r.side ≤ 990 := by
    have := Int.mul_le_mul a6 a2 (by omega) (by omega)
    omega
  unfold inRangeS at h2
  simp only [Bool.and_eq_true] at h2
  obtain ⟨⟨⟨⟨⟨⟨⟨⟨⟨⟨e0, e1⟩, e2⟩, e3⟩, e4⟩, e5⟩, e6⟩, e7⟩, e8⟩, e9⟩, e10⟩ := h2
  by_cases h8 : 8 < r.power.length
  · rw [if_pos h8] at hz
    have HZ := Lib.hid hz
    have h8' : (8 : Int) < (r.power.length : Int) := by omega
    clear hz
    as_aux_lemma =>
      go_enter Tryz.func36, Tryz.ntmps36
      go_wp2_with (first | (go_at_call 73; refine (HNM.out _ HB0.out HA.out).mono ?_; rintro e w2 ⟨rfl, hb2, hr2⟩; obtain ⟨y0, y1, y2, y3, y4, y5, y6, y7, y8, y9, y10, y11, y12, y13⟩ := hr2.cells; have HB2 := Lib.hid hb2; have HR2 := Lib.hid hr2; clear hb2 hr2) | (go_at_call 74; refine (ref_in _ _ _ _).mono ?_; rintro e w3 ⟨rfl, rfl⟩))
      go_ret
      exact ⟨ret_i HZ.out.symm, HB2.out⟩
  · rw [if_neg h8] at hz
    have h8' : (r.power.length : Int) ≤ 8 := by omega
    have HZ := Lib.hid hz
    clear hz
    go_enter Tryz.func36, Tryz.ntmps36
    go_wp2_with (first | (go_at_call 73; refine (HNM.out _ HB0.out HA.out).mono ?_; rintro e w2 ⟨rfl, hb2, hr2⟩; obtain ⟨y0, y1, y2, y3, y4, y5, y6, y7, y8, y9, y10, y11, y12, y13⟩ := hr2.cells; have HB2 := Lib.hid hb2; have HR2 := Lib.hid hr2; clear hb2 hr2) | (go_at_call 74; refine (ref_in _ _ _ _).mono ?_; rintro e w3 ⟨rfl, rfl⟩))
    clear f1 f2 o1 q1 p1 e0 e1 e2 e3 e4 e5 e6 e7 e8 e9 e10 h1 m1 m2 a1 a2 a3 a4 a5 a6 y0 y1 y2 y3 y4 y5 y6 y7 y8 y9 y10 y11 y12 y13
    go_loopw [117] (fun i wr => ∃ k : Nat, k ≤ r.power.length ∧ i = .int .i64 k ∧ Below w.heap.size w wr ∧ RulAt wr w.heap.size r (.slice A r.power.length c) ∧ Hid (z = phasesF r.overs (r.power.drop k) (prevP r.power k)))
      (fun i _ => r.power.length - (intOf i).toNat)
    case atStart => exact ⟨0, Nat.zero_le _, rfl, HB2.out, HR2.out, HZ.out⟩
    case round =>
      obtain ⟨k, hk, rfl, hb, ha, hzz⟩ := hrel
      have HB := Lib.hid hb
      have HAA := Lib.hid ha
      by_cases hlt : k < r.power.length
      · obtain ⟨b, o, rfl, hbl, y0, y1, y2⟩ := pha_at ha.sl hlt
        have hzz' := hzz.out
        rw [phasesF_at hlt] at hzz'
        obtain ⟨⟨pf, pt, po⟩, hp⟩ : ∃ p, p = r.power[k] := ⟨_, rfl⟩
        rw [← hp] at y0 y1 y2 hzz'
        have hkb := ha.blk
        have hg := hkb.lt
        unfold rulCells at hkb
        have x3 := hkb.cell 3
        have x13 := hkb.cell 13
        simp only [List.getElem?_toArray, List.getElem?_cons_zero, List.getElem?_cons_succ] at x3 x13
        have HP := Lib.hid hp
        rcases phaB_ways r.overs ⟨pf, pt, po⟩ with ⟨hB, hw⟩ | ⟨hB, e1, e2, e3, e4⟩
        · have hz2 : z = 2 := by rw [hzz', phaErr_two hB]; rfl
          have HZZ := Lib.hid hz2
          clear hb ha hzz hzz' hkb hp hz2 hB
          rcases hw with e1 | ⟨e1, e2⟩ | ⟨e1, e2, e3⟩ | ⟨e1, e2, e3, e4⟩
          all_goals
            dsimp only at *
            go_wp2_with (go_at_call 74; refine (ref_in _ _ _ _).mono ?_; rintro e w2 ⟨rfl, rfl⟩)
            go_ret
            exact ⟨ret_i HZZ.out.symm, Below.alloc HB.out HB.out.size _⟩
        · dsimp only at e1 e2 e3 e4
          by_cases hk0 : k = 0
          · have hz2 : z = phasesF r.overs (r.power.drop (k + 1)) (prevP r.power (k + 1)) := by
              rw [hzz', hk0, prevP_zero, phaErr_none hB]; rfl
            have HZZ := Lib.hid hz2
            have g1 : decide ((0 : Int) < (k : Int)) = false := decide_eq_false (by omega)
            have g2 : decide (0 < k) = false := decide_eq_false (by omega)
            clear hb ha hzz hzz' hkb hp hz2 hB hk0
            go_wp2_with (go_at_call 74; refine (ref_in _ _ _ _).mono ?_; rintro e w2 ⟨rfl, rfl⟩)
            go_quiet (fail)
            go_wp2
            go_roundw
            case rel => exact ⟨k + 1, by omega, by go_num, Below.drewN_ (Below.alloc HB.out HB.out.size _) _, HAA.out.below (Below.drewN_ (Below.alloc (Below.refl _ _) (Nat.le_refl _) _) _), HZZ.out⟩
            case measure => simp [intOf]; omega
          · obtain ⟨b', o', hbo, hbl', q0, q1, q2⟩ := pha_at ha.sl (k := k - 1) (by omega)
            simp only [Option.some.injEq, Addr.mk.injEq] at hbo
            obtain ⟨rfl, rfl, _⟩ := hbo
            obtain ⟨x, hx⟩ : ∃ x, x = r.power[k - 1]'(by omega) := ⟨_, rfl⟩
            have hz2 : z = if (if pf ≤ x.til then (8 : Int) else 0) ≠ 0 then (if pf ≤ x.til then (8 : Int) else 0) else phasesF r.overs (r.power.drop (k + 1)) (prevP r.power (k + 1)) := by
              rw [hzz', prevP_succ hk0 (by omega), phaErr_some hB, ← hx]
            rw [← hx] at q0 q1 q2
            have g1 : decide ((0 : Int) < (k : Int)) = true := decide_eq_true (by omega)
            have g2 : decide (0 < k) = true := decide_eq_true (by omega)
            have s1 : IntKind.i64.wrap ((k : Int) - 1) = (k : Int) - 1 := IntWalk.i64_in _ (by omega)
            have s2 : (0 : Int) ≤ (k : Int) - 1 := by omega
            have s3 : ((k : Int) - 1).toNat = k - 1 := by omega
            have s4 : (k : Int) - 1 < (r.power.length : Int) := by omega
            by_cases hle : pf ≤ x.til
            · rw [if_pos hle, if_pos (by decide)] at hz2
              have HZZ := Lib.hid hz2
              have g3 : decide (pf ≤ x.til) = true := decide_eq_true hle
              clear hb ha hzz hzz' hkb hp hz2 hB hk0 hx
              go_wp2_with (go_at_call 74; refine (ref_in _ _ _ _).mono ?_; rintro e w2 ⟨rfl, rfl⟩)
              go_quiet (fail)
              go_wp2
              go_ret
              exact ⟨ret_i HZZ.out.symm, Below.drewN_ (Below.alloc HB.out HB.out.size _) _⟩
            · rw [if_neg hle, if_neg (by decide)] at hz2
              have HZZ := Lib.hid hz2
              have g3 : decide (pf ≤ x.til) = false := decide_eq_false hle
              clear hb ha hzz hzz' hkb hp hz2 hB hk0 hx
              go_wp2_with (go_at_call 74; refine (ref_in _ _ _ _).mono ?_; rintro e w2 ⟨rfl, rfl⟩)
              go_quiet (fail)
              go_wp2
              go_roundw
              case rel => exact ⟨k + 1, by omega, by go_num, Below.drewN_ (Below.alloc HB.out HB.out.size _) _, HAA.out.below (Below.drewN_ (Below.alloc (Below.refl _ _) (Nat.le_refl _) _) _), HZZ.out⟩
              case measure => simp [intOf]; omega
      · obtain rfl : k = r.power.length := by omega
        have hzz' := hzz.out
        rw [phasesF_end (Nat.le_refl _)] at hzz'
        have HZZ := Lib.hid hzz'
        clear hb ha hzz hzz'
        go_wp2
        go_ret
        exact ⟨ret_i HZZ.out.symm, HB.out⟩
set_option maxRecDepth 100000 in
set_option maxHeartbeats 4000000 in
theorem ref_RCheck_B6 (r : Rul) (pv : Value) (w : World) (h : Sl 3 elPha w (· < w.heap.size) pv r.power) (hn : r.name.length ≤ 1000000000) (h1 : nameS r.name = true) (h2 : inRangeS r = true) (f1 : (r.follow != 0) = true) (f2 : (r.inns == 1) = false) (o1 : (r.overs == 0) = false) (q1 : (r.quota != 0) = false) :
    Calls Tryz.prog 36 #[rulV r pv] w fun e w' => e = .returned (.int .i64 (phasesS r)) ∧ Below w.heap.size w w' := by
  obtain ⟨z, hz⟩ : ∃ z, z = phasesS r := ⟨_, rfl⟩
  rw [← hz]
  unfold phasesS at hz
  obtain ⟨A, c, rfl, hc, hc2⟩ := h.shape
  have hA := RulAt.new h
  have hb0 : Below w.heap.size w (w.alloc (.cells (rulCells r (.slice A r.power.length c)) 25)) := Below.alloc (Below.refl _ _) (Nat.le_refl _) _
  have HB0 := Lib.hid hb0
  have hnm : ∀ W, Below w.heap.size w W → RulAt W w.heap.size r (.slice A r.power.length c) → Calls Tryz.prog 73 #[.string (S r.name)] W fun e W' => e = .returned (.bool (nameS r.name)) ∧ Below w.heap.size w W' ∧ RulAt W' w.heap.size r (.slice A r.power.length c) := fun W h1 h2 => by
    refine (ref_Name (S r.name) W (by simp only [S_size, maxLen]; omega)).mono ?_
    rintro e W' ⟨rfl, rfl⟩
    exact ⟨rfl, h1, h2⟩
  have HA := Lib.hid hA
  have H := Lib.hid h
  unfold rulCells at HA HB0
  have HNM := Lib.hid hnm
  clear h hA hb0 hnm
  unfold rulV rulCells
  obtain ⟨⟨a1, a2⟩, _, ⟨a3, a4⟩, _, ⟨a5, a6⟩, _⟩ := (inRangeS_iff r).1 h2
  have m1 : 0 ≤ r.quota * r.side := Int.mul_nonneg a5 (by omega)
  have m2 : r.quota * r.side ≤ 990 := by
    have := Int.mul_le_mul a6 a2 (by omega) (by omega)
    omega
  unfold inRangeS at h2
  simp only [Bool.and_eq_true] at h2
  obtain ⟨⟨⟨⟨⟨⟨⟨⟨⟨⟨e0, e1⟩, e2⟩, e3⟩, e4⟩, e5⟩, e6⟩, e7⟩, e8⟩, e9⟩, e10⟩ := h2
  by_cases h8 : 8 < r.power.length
  · rw [if_pos h8] at hz
    have HZ := Lib.hid hz
    have h8' : (8 : Int) < (r.power.length : Int) := by omega
    clear hz
    as_aux_lemma =>
      go_enter Tryz.func36, Tryz.ntmps36
      go_wp2_with (first | (go_at_call 73; refine (HNM.out _ HB0.out HA.out).mono ?_; rintro e w2 ⟨rfl, hb2, hr2⟩; obtain ⟨y0, y1, y2, y3, y4, y5, y6, y7, y8, y9, y10, y11, y12, y13⟩ := hr2.cells; have HB2 := Lib.hid hb2; have HR2 := Lib.hid hr2; clear hb2 hr2) | (go_at_call 74; refine (ref_in _ _ _ _).mono ?_; rintro e w3 ⟨rfl, rfl⟩))
      go_ret
      exact ⟨ret_i HZ.out.symm, HB2.out⟩
  · rw [if_neg h8] at hz
    have h8' : (r.power.length : Int) ≤ 8 := by omega
    have HZ := Lib.hid hz
    clear hz
    go_enter Tryz.func36, Tryz.ntmps36
    go_wp2_with (first | (go_at_call 73; refine (HNM.out _ HB0.out HA.out).mono ?_; rintro e w2 ⟨rfl, hb2, hr2⟩; obtain ⟨y0, y1, y2, y3, y4, y5, y6, y7, y8, y9, y10, y11, y12, y13⟩ := hr2.cells; have HB2 := Lib.hid hb2; have HR2 := Lib.hid hr2; clear hb2 hr2) | (go_at_call 74; refine (ref_in _ _ _ _).mono ?_; rintro e w3 ⟨rfl, rfl⟩))
    clear f1 f2 o1 q1 e0 e1 e2 e3 e4 e5 e6 e7 e8 e9 e10 h1 m1 m2 a1 a2 a3 a4 a5 a6 y0 y1 y2 y3 y4 y5 y6 y7 y8 y9 y10 y11 y12 y13
    go_loopw [117] (fun i wr => ∃ k : Nat, k ≤ r.power.length ∧ i = .int .i64 k ∧ Below w.heap.size w wr ∧ RulAt wr w.heap.size r (.slice A r.power.length c) ∧ Hid (z = phasesF r.overs (r.power.drop k) (prevP r.power k)))
      (fun i _ => r.power.length - (intOf i).toNat)
    case atStart => exact ⟨0, Nat.zero_le _, rfl, HB2.out, HR2.out, HZ.out⟩
    case round =>
      obtain ⟨k, hk, rfl, hb, ha, hzz⟩ := hrel
      have HB := Lib.hid hb
      have HAA := Lib.hid ha
      by_cases hlt : k < r.power.length
      · obtain ⟨b, o, rfl, hbl, y0, y1, y2⟩ := pha_at ha.sl hlt
        have hzz' := hzz.out
        rw [phasesF_at hlt] at hzz'
        obtain ⟨⟨pf, pt, po⟩, hp⟩ : ∃ p, p = r.power[k] := ⟨_, rfl⟩
        rw [← hp] at y0 y1 y2 hzz'
        have hkb := ha.blk
        have hg := hkb.lt
        unfold rulCells at hkb
        have x3 := hkb.cell 3
        have x13 := hkb.cell 13
        simp only [List.getElem?_toArray, List.getElem?_cons_zero, List.getElem?_cons_succ] at x3 x13
        have HP := Lib.hid hp
        rcases phaB_ways r.overs ⟨pf, pt, po⟩ with ⟨hB, hw⟩ | ⟨hB, e1, e2, e3, e4⟩
        · have hz2 : z = 2 := by rw [hzz', phaErr_two hB]; rfl
          have HZZ := Lib.hid hz2
          clear hb ha hzz hzz' hkb hp hz2 hB
          rcases hw with e1 | ⟨e1, e2⟩ | ⟨e1, e2, e3⟩ | ⟨e1, e2, e3, e4⟩
          all_goals
            dsimp only at *
            go_wp2_with (go_at_call 74; refine (ref_in _ _ _ _).mono ?_; rintro e w2 ⟨rfl, rfl⟩)
            go_ret
            exact ⟨ret_i HZZ.out.symm, Below.alloc HB.out HB.out.size _⟩
        · dsimp only at e1 e2 e3 e4
          by_cases hk0 : k = 0
          · have hz2 : z = phasesF r.overs (r.power.drop (k + 1)) (prevP r.power (k + 1)) := by
              rw [hzz', hk0, prevP_zero, phaErr_none hB]; rfl
            have HZZ := Lib.hid hz2
            have g1 : decide ((0 : Int) < (k : Int)) = false := decide_eq_false (by omega)
            have g2 : decide (0 < k) = false := decide_eq_false (by omega)
            clear hb ha hzz hzz' hkb hp hz2 hB hk0
            go_wp2_with (go_at_call 74; refine (ref_in _ _ _ _).mono ?_; rintro e w2 ⟨rfl, rfl⟩)
            go_quiet (fail)
            go_wp2
            go_roundw
            case rel => exact ⟨k + 1, by omega, by go_num, Below.drewN_ (Below.alloc HB.out HB.out.size _) _, HAA.out.below (Below.drewN_ (Below.alloc (Below.refl _ _) (Nat.le_refl _) _) _), HZZ.out⟩
            case measure => simp [intOf]; omega
          · obtain ⟨b', o', hbo, hbl', q0, q1, q2⟩ := pha_at ha.sl (k := k - 1) (by omega)
            simp only [Option.some.injEq, Addr.mk.injEq] at hbo
            obtain ⟨rfl, rfl, _⟩ := hbo
            obtain ⟨x, hx⟩ : ∃ x, x = r.power[k - 1]'(by omega) := ⟨_, rfl⟩
            have hz2 : z = if (if pf ≤ x.til then (8 : Int) else 0) ≠ 0 then (if pf ≤ x.til then (8 : Int) else 0) else phasesF r.overs (r.power.drop (k + 1)) (prevP r.power (k + 1)) := by
              rw [hzz', prevP_succ hk0 (by omega), phaErr_some hB, ← hx]
            rw [← hx] at q0 q1 q2
            have g1 : decide ((0 : Int) < (k : Int)) = true := decide_eq_true (by omega)
            have g2 : decide (0 < k) = true := decide_eq_true (by omega)
            have s1 : IntKind.i64.wrap ((k : Int) - 1) = (k : Int) - 1 := IntWalk.i64_in _ (by omega)
            have s2 : (0 : Int) ≤ (k : Int) - 1 := by omega
            have s3 : ((k : Int) - 1).toNat = k - 1 := by omega
            have s4 : (k : Int) - 1 < (r.power.length : Int) := by omega
            by_cases hle : pf ≤ x.til
            · rw [if_pos hle, if_pos (by decide)] at hz2
              have HZZ := Lib.hid hz2
              have g3 : decide (pf ≤ x.til) = true := decide_eq_true hle
              clear hb ha hzz hzz' hkb hp hz2 hB hk0 hx
              go_wp2_with (go_at_call 74; refine (ref_in _ _ _ _).mono ?_; rintro e w2 ⟨rfl, rfl⟩)
              go_quiet (fail)
              go_wp2
              go_ret
              exact ⟨ret_i HZZ.out.symm, Below.drewN_ (Below.alloc HB.out HB.out.size _) _⟩
            · rw [if_neg hle, if_neg (by decide)] at hz2
              have HZZ := Lib.hid hz2
              have g3 : decide (pf ≤ x.til) = false := decide_eq_false hle
              clear hb ha hzz hzz' hkb hp hz2 hB hk0 hx
              go_wp2_with (go_at_call 74; refine (ref_in _ _ _ _).mono ?_; rintro e w2 ⟨rfl, rfl⟩)
              go_quiet (fail)
              go_wp2
              go_roundw
              case rel => exact ⟨k + 1, by omega, by go_num, Below.drewN_ (Below.alloc HB.out HB.out.size _) _, HAA.out.below (Below.drewN_ (Below.alloc (Below.refl _ _) (Nat.le_refl _) _) _), HZZ.out⟩
              case measure => simp [intOf]; omega
      · obtain rfl : k = r.power.length := by omega
        have hzz' := hzz.out
        rw [phasesF_end (Nat.le_refl _)] at hzz'
        have HZZ := Lib.hid hzz'
        clear hb ha hzz hzz'
        go_wp2
        go_ret
        exact ⟨ret_i HZZ.out.symm, HB.out⟩
end Go.Proofs.YtglkejlimeakbaaGreatDoor

namespace Go.Proofs.YtglkejlimeakbaaGreatDoor
open Go.RowKit

set_option maxRecDepth 100000 in
set_option maxHeartbeats 4000000 in
theorem ref_RCheck_C3 (r : Rul) (pv : Value) (w : World) (h : Sl 3 elPha w (· < w.heap.size) pv r.power) (hn : r.name.length ≤ 1000000000) (h1 : nameS r.name = true) (h2 : inRangeS r = true) (f1 : (r.follow != 0) = false) (o1 : (r.overs == 0) = true) (q1 : (r.quota != 0) = false) (l1 : decide (0 < r.power.length) = false) (l2 : decide ((0 : Int) < (r.power.length : Int)) = false) :
    Calls Tryz.prog 36 #[rulV r pv] w fun e w' => e = .returned (.int .i64 (phasesS r)) ∧ Below w.heap.size w w' := by
  obtain ⟨z, hz⟩ : ∃ z, z = phasesS r := ⟨_, rfl⟩
  rw [← hz]
  unfold phasesS at hz
  obtain ⟨A, c, rfl, hc, hc2⟩ := h.shape
  have hA := RulAt.new h
  have hb0 : Below w.heap.size w (w.alloc (.cells (rulCells r (.slice A r.power.length c)) 25)) := Below.alloc (Below.refl _ _) (Nat.le_refl _) _
  have HB0 := Lib.hid hb0
  have hnm : ∀ W, Below w.heap.size w W → RulAt W w.heap.size r (.slice A r.power.length c) → Calls Tryz.prog 73 #[.string (S r.name)] W fun e W' => e = .returned (.bool (nameS r.name)) ∧ Below w.heap.size w W' ∧ RulAt W' w.heap.size r (.slice A r.power.length c) := fun W h1 h2 => by
    refine (ref_Name (S r.name) W (by simp only [S_size, maxLen]; omega)).mono ?_
    rintro e W' ⟨rfl, rfl⟩
    exact ⟨rfl, h1, h2⟩
  have HA := Lib.hid hA
  have H := Lib.hid h
  unfold rulCells at HA HB0
  have HNM := Lib.hid hnm
  clear h hA hb0 hnm
  unfold rulV rulCells
  obtain ⟨⟨a1, a2⟩, _, ⟨a3, a4⟩, _, ⟨a5, a6⟩, _⟩ := (inRangeS_iff r).1 h2
  have m1 : 0 ≤ r.quota * r.side := Int.mul_nonneg a5 (by omega)
  have m2 : r.quota * r.side ≤ 990 := by
    have := Int.mul_le_mul a6 a2 (by omega) (by omega)
    omega
  unfold inRangeS at h2
  simp only [Bool.and_eq_true] at h2
  obtain ⟨⟨⟨⟨⟨⟨⟨⟨⟨⟨e0, e1⟩, e2⟩, e3⟩, e4⟩, e5⟩, e6⟩, e7⟩, e8⟩, e9⟩, e10⟩ := h2
  by_cases h8 : 8 < r.power.length
  · rw [if_pos h8] at hz
    have HZ := Lib.hid hz
    have h8' : (8 : Int) < (r.power.length : Int) := by omega
    clear hz
    as_aux_lemma =>
      go_enter Tryz.func36, Tryz.ntmps36
      go_wp2_with (first | (go_at_call 73; refine (HNM.out _ HB0.out HA.out).mono ?_; rintro e w2 ⟨rfl, hb2, hr2⟩; obtain ⟨y0, y1, y2, y3, y4, y5, y6, y7, y8, y9, y10, y11, y12, y13⟩ := hr2.cells; have HB2 := Lib.hid hb2; have HR2 := Lib.hid hr2; clear hb2 hr2) | (go_at_call 74; refine (ref_in _ _ _ _).mono ?_; rintro e w3 ⟨rfl, rfl⟩))
      go_ret
      exact ⟨ret_i HZ.out.symm, HB2.out⟩
  · rw [if_neg h8] at hz
    have h8' : (r.power.length : Int) ≤ 8 := by omega
    have HZ := Lib.hid hz
    clear hz
    go_enter Tryz.func36, Tryz.ntmps36
    go_wp2_with (first | (go_at_call 73; refine (HNM.out _ HB0.out HA.out).mono ?_; rintro e w2 ⟨rfl, hb2, hr2⟩; obtain ⟨y0, y1, y2, y3, y4, y5, y6, y7, y8, y9, y10, y11, y12, y13⟩ := hr2.cells; have HB2 := Lib.hid hb2; have HR2 := Lib.hid hr2; clear hb2 hr2) | (go_at_call 74; refine (ref_in _ _ _ _).mono ?_; rintro e w3 ⟨rfl, rfl⟩))
    clear f1 o1 q1 l1 l2 e0 e1 e2 e3 e4 e5 e6 e7 e8 e9 e10 h1 m1 m2 a1 a2 a3 a4 a5 a6 y0 y1 y2 y3 y4 y5 y6 y7 y8 y9 y10 y11 y12 y13
    go_loopw [117] (fun i wr => ∃ k : Nat, k ≤ r.power.length ∧ i = .int .i64 k ∧ Below w.heap.size w wr ∧ RulAt wr w.heap.size r (.slice A r.power.length c) ∧ Hid (z = phasesF r.overs (r.power.drop k) (prevP r.power k)))
      (fun i _ => r.power.length - (intOf i).toNat)
    case atStart => exact ⟨0, Nat.zero_le _, rfl, HB2.out, HR2.out, HZ.out⟩
    case round =>
      obtain ⟨k, hk, rfl, hb, ha, hzz⟩ := hrel
      have HB := Lib.hid hb
      have HAA := Lib.hid ha
      by_cases hlt : k < r.power.length
      · obtain ⟨b, o, rfl, hbl, y0, y1, y2⟩ := pha_at ha.sl hlt
        have hzz' := hzz.out
        rw [phasesF_at hlt] at hzz'
        obtain ⟨⟨pf, pt, po⟩, hp⟩ : ∃ p, p = r.power[k] := ⟨_, rfl⟩
        rw [← hp] at y0 y1 y2 hzz'
        have hkb := ha.blk
        have hg := hkb.lt
        unfold rulCells at hkb
        have x3 := hkb.cell 3
        have x13 := hkb.cell 13
        simp only [List.getElem?_toArray, List.getElem?_cons_zero, List.getElem?_cons_succ] at x3 x13
        have HP := Lib.hid hp
        rcases phaB_ways r.overs ⟨pf, pt, po⟩ with ⟨hB, hw⟩ | ⟨hB, e1, e2, e3, e4⟩
        · have hz2 : z = 2 := by rw [hzz', phaErr_two hB]; rfl
          have HZZ := Lib.hid hz2
          clear hb ha hzz hzz' hkb hp hz2 hB
          rcases hw with e1 | ⟨e1, e2⟩ | ⟨e1, e2, e3⟩ | ⟨e1, e2, e3, e4⟩
          all_goals
            dsimp only at *
            go_wp2_with (go_at_call 74; refine (ref_in _ _ _ _).mono ?_; rintro e w2 ⟨rfl, rfl⟩)
            go_ret
            exact ⟨ret_i HZZ.out.symm, Below.alloc HB.out HB.out.size _⟩
        · dsimp only at e1 e2 e3 e4
          by_cases hk0 : k = 0
          · have hz2 : z = phasesF r.overs (r.power.drop (k + 1)) (prevP r.power (k + 1)) := by
              rw [hzz', hk0, prevP_zero, phaErr_none hB]; rfl
            have HZZ := Lib.hid hz2
            have g1 : decide ((0 : Int) < (k : Int)) = false := decide_eq_false (by omega)
            have g2 : decide (0 < k) = false := decide_eq_false (by omega)
            clear hb ha hzz hzz' hkb hp hz2 hB hk0
            go_wp2_with (go_at_call 74; refine (ref_in _ _ _ _).mono ?_; rintro e w2 ⟨rfl, rfl⟩)
            go_quiet (fail)
            go_wp2
            go_roundw
            case rel => exact ⟨k + 1, by omega, by go_num, Below.drewN_ (Below.alloc HB.out HB.out.size _) _, HAA.out.below (Below.drewN_ (Below.alloc (Below.refl _ _) (Nat.le_refl _) _) _), HZZ.out⟩
            case measure => simp [intOf]; omega
          · obtain ⟨b', o', hbo, hbl', q0, q1, q2⟩ := pha_at ha.sl (k := k - 1) (by omega)
            simp only [Option.some.injEq, Addr.mk.injEq] at hbo
            obtain ⟨rfl, rfl, _⟩ := hbo
            obtain ⟨x, hx⟩ : ∃ x, x = r.power[k - 1]'(by omega) := ⟨_, rfl⟩
            have hz2 : z = if (if pf ≤ x.til then (8 : Int) else 0) ≠ 0 then (if pf ≤ x.til then (8 : Int) else 0) else phasesF r.overs (r.power.drop (k + 1)) (prevP r.power (k + 1)) := by
              rw [hzz', prevP_succ hk0 (by omega), phaErr_some hB, ← hx]
            rw [← hx] at q0 q1 q2
            have g1 : decide ((0 : Int) < (k : Int)) = true := decide_eq_true (by omega)
            have g2 : decide (0 < k) = true := decide_eq_true (by omega)
            have s1 : IntKind.i64.wrap ((k : Int) - 1) = (k : Int) - 1 := IntWalk.i64_in _ (by omega)
            have s2 : (0 : Int) ≤ (k : Int) - 1 := by omega
            have s3 : ((k : Int) - 1).toNat = k - 1 := by omega
            have s4 : (k : Int) - 1 < (r.power.length : Int) := by omega
            by_cases hle : pf ≤ x.til
            · rw [if_pos hle, if_pos (by decide)] at hz2
              have HZZ := Lib.hid hz2
              have g3 : decide (pf ≤ x.til) = true := decide_eq_true hle
              clear hb ha hzz hzz' hkb hp hz2 hB hk0 hx
              go_wp2_with (go_at_call 74; refine (ref_in _ _ _ _).mono ?_; rintro e w2 ⟨rfl, rfl⟩)
              go_quiet (fail)
              go_wp2
              go_ret
              exact ⟨ret_i HZZ.out.symm, Below.drewN_ (Below.alloc HB.out HB.out.size _) _⟩
            · rw [if_neg hle, if_neg (by decide)] at hz2
              have HZZ := Lib.hid hz2
              have g3 : decide (pf ≤ x.til) = false := decide_eq_false hle
              clear hb ha hzz hzz' hkb hp hz2 hB hk0 hx
              go_wp2_with (go_at_call 74; refine (ref_in _ _ _ _).mono ?_; rintro e w2 ⟨rfl, rfl⟩)
              go_quiet (fail)
              go_wp2
              go_roundw
              case rel => exact ⟨k + 1, by omega, by go_num, Below.drewN_ (Below.alloc HB.out HB.out.size _) _, HAA.out.below (Below.drewN_ (Below.alloc (Below.refl _ _) (Nat.le_refl _) _) _), HZZ.out⟩
              case measure => simp [intOf]; omega
      · obtain rfl : k = r.power.length := by omega
        have hzz' := hzz.out
        rw [phasesF_end (Nat.le_refl _)] at hzz'
        have HZZ := Lib.hid hzz'
        clear hb ha hzz hzz'
        go_wp2
        go_ret
        exact ⟨ret_i HZZ.out.symm, HB.out⟩
set_option maxRecDepth 100000 in
set_option maxHeartbeats 4000000 in
theorem ref_RCheck_C5 (r : Rul) (pv : Value) (w : World) (h : Sl 3 elPha w (· < w.heap.size) pv r.power) (hn : r.name.length ≤ 1000000000) (h1 : nameS r.name = true) (h2 : inRangeS r = true) (f1 : (r.follow != 0) = false) (o1 : (r.overs == 0) = false) (q1 : (r.quota != 0) = true) (p1 : (decide (r.quota * r.side < r.overs)) = false) :
    Calls Tryz.prog 36 #[rulV r pv] w fun e w' => e = .returned (.int .i64 (phasesS r)) ∧ Below w.heap.size w w' := by
  obtain ⟨z, hz⟩ : ∃ z, z = phasesS r := ⟨_, rfl⟩
  rw [← hz]
  unfold phasesS at hz
  obtain ⟨A, c, rfl, hc, hc2⟩ := h.shape
  have hA := RulAt.new h
  have hb0 : Below w.heap.size w (w.alloc (.cells (rulCells r (.slice A r.power.length c)) 25)) := Below.alloc (Below.refl _ _) (Nat.le_refl _) _
  have HB0 := Lib.hid hb0
  have hnm : ∀ W, Below w.heap.size w W → RulAt W w.heap.size r (.slice A r.power.length c) → Calls Tryz.prog 73 #[.string (S r.name)] W fun e W' => e = .returned (.bool (nameS r.name)) ∧ Below w.heap.size w W' ∧ RulAt W' w.heap.size r (.slice A r.power.length c) := fun W h1 h2 => by
    refine (ref_Name (S r.name) W (by simp only [S_size, maxLen]; omega)).mono ?_
    rintro e W' ⟨rfl, rfl⟩
    exact ⟨rfl, h1, h2⟩
  have HA := Lib.hid hA
  have H := Lib.hid h
  unfold rulCells at HA HB0
  have HNM := Lib.hid hnm
  clear h hA hb0 hnm
  unfold rulV rulCells
  obtain ⟨⟨a1, a2⟩, _, ⟨a3, a4⟩, _, ⟨a5, a6⟩, _⟩ := (inRangeS_iff r).1 h2
  have m1 : 0 ≤ r.quota * r.side := Int.mul_nonneg a5 (by omega)
  have m2 : r.quota * r.side ≤ 990 := by
    have := Int.mul_le_mul a6 a2 (by omega) (by omega)
    omega
  unfold inRangeS at h2
  simp only [Bool.and_eq_true] at h2
  obtain ⟨⟨⟨⟨⟨⟨⟨⟨⟨⟨e0, e1⟩, e2⟩, e3⟩, e4⟩, e5⟩, e6⟩, e7⟩, e8⟩, e9⟩, e10⟩ := h2
  by_cases h8 : 8 < r.power.length
  · rw [if_pos h8] at hz
    have HZ := Lib.hid hz
    have h8' : (8 : Int) < (r.power.length : Int) := by omega
    clear hz
    as_aux_lemma =>
      go_enter Tryz.func36, Tryz.ntmps36
      go_wp2_with (first | (go_at_call 73; refine (HNM.out _ HB0.out HA.out).mono ?_; rintro e w2 ⟨rfl, hb2, hr2⟩; obtain ⟨y0, y1, y2, y3, y4, y5, y6, y7, y8, y9, y10, y11, y12, y13⟩ := hr2.cells; have HB2 := Lib.hid hb2; have HR2 := Lib.hid hr2; clear hb2 hr2) | (go_at_call 74; refine (ref_in _ _ _ _).mono ?_; rintro e w3 ⟨rfl, rfl⟩))
      go_ret
      exact ⟨ret_i HZ.out.symm, HB2.out⟩
  · rw [if_neg h8] at hz
    have h8' : (r.power.length : Int) ≤ 8 := by omega
    have HZ := Lib.hid hz
    clear hz
    go_enter Tryz.func36, Tryz.ntmps36
    go_wp2_with (first | (go_at_call 73; refine (HNM.out _ HB0.out HA.out).mono ?_; rintro e w2 ⟨rfl, hb2, hr2⟩; obtain ⟨y0, y1, y2, y3, y4, y5, y6, y7, y8, y9, y10, y11, y12, y13⟩ := hr2.cells; have HB2 := Lib.hid hb2; have HR2 := Lib.hid hr2; clear hb2 hr2) | (go_at_call 74; refine (ref_in _ _ _ _).mono ?_; rintro e w3 ⟨rfl, rfl⟩))
    clear f1 o1 q1 p1 e0 e1 e2 e3 e4 e5 e6 e7 e8 e9 e10 h1 m1 m2 a1 a2 a3 a4 a5 a6 y0 y1 y2 y3 y4 y5 y6 y7 y8 y9 y10 y11 y12 y13
    go_loopw [117] (fun i wr => ∃ k : Nat, k ≤ r.power.length ∧ i = .int .i64 k ∧ Below w.heap.size w wr ∧ RulAt wr w.heap.size r (.slice A r.power.length c) ∧ Hid (z = phasesF r.overs (r.power.drop k) (prevP r.power k)))
      (fun i _ => r.power.length - (intOf i).toNat)
    case atStart => exact ⟨0, Nat.zero_le _, rfl, HB2.out, HR2.out, HZ.out⟩
    case round =>
      obtain ⟨k, hk, rfl, hb, ha, hzz⟩ := hrel
      have HB := Lib.hid hb
      have HAA := Lib.hid ha
      by_cases hlt : k < r.power.length
      · obtain ⟨b, o, rfl, hbl, y0, y1, y2⟩ := pha_at ha.sl hlt
        have hzz' := hzz.out
        rw [phasesF_at hlt] at hzz'
        obtain ⟨⟨pf, pt, po⟩, hp⟩ : ∃ p, p = r.power[k] := ⟨_, rfl⟩
        rw [← hp] at y0 y1 y2 hzz'
        have hkb := ha.blk
        have hg := hkb.lt
        unfold rulCells at hkb
        have x3 := hkb.cell 3
        have x13 := hkb.cell 13
        simp only [List.getElem?_toArray, List.getElem?_cons_zero, List.getElem?_cons_succ] at x3 x13
        have HP := Lib.hid hp
        rcases phaB_ways r.overs ⟨pf, pt, po⟩ with ⟨hB, hw⟩ | ⟨hB, e1, e2, e3, e4⟩
        · have hz2 : z = 2 := by rw [hzz', phaErr_two hB]; rfl
          have HZZ := Lib.hid hz2
          clear hb ha hzz hzz' hkb hp hz2 hB
          rcases hw with e1 | ⟨e1, e2⟩ | ⟨e1, e2, e3⟩ | ⟨e1, e2, e3, e4⟩
          all_goals
            dsimp only at *
            go_wp2_with (go_at_call 74; refine (ref_in _ _ _ _).mono ?_; rintro e w2 ⟨rfl, rfl⟩)
            go_ret
            exact ⟨ret_i HZZ.out.symm, Below.alloc HB.out HB.out.size _⟩
        · dsimp only at e1 e2 e3 e4
          by_cases hk0 : k = 0
          · have hz2 : z = phasesF r.overs (r.power.drop (k + 1)) (prevP r.power (k + 1)) := by
              rw [hzz', hk0, prevP_zero, phaErr_none hB]; rfl
            have HZZ := Lib.hid hz2
            have g1 : decide ((0 : Int) < (k : Int)) = false := decide_eq_false (by omega)
            have g2 : decide (0 < k) = false := decide_eq_false (by omega)
            clear hb ha hzz hzz' hkb hp hz2 hB hk0
            go_wp2_with (go_at_call 74; refine (ref_in _ _ _ _).mono ?_; rintro e w2 ⟨rfl, rfl⟩)
            go_quiet (fail)
            go_wp2
            go_roundw
            case rel => exact ⟨k + 1, by omega, by go_num, Below.drewN_ (Below.alloc HB.out HB.out.size _) _, HAA.out.below (Below.drewN_ (Below.alloc (Below.refl _ _) (Nat.le_refl _) _) _), HZZ.out⟩
            case measure => simp [intOf]; omega
          · obtain ⟨b', o', hbo, hbl', q0, q1, q2⟩ := pha_at ha.sl (k := k - 1) (by omega)
            simp only [Option.some.injEq, Addr.mk.injEq] at hbo
            obtain ⟨rfl, rfl, _⟩ := hbo
            obtain ⟨x, hx⟩ : ∃ x, x = r.power[k - 1]'(by omega) := ⟨_, rfl⟩
            have hz2 : z = if (if pf ≤ x.til then (8 : Int) else 0) ≠ 0 then (if pf ≤ x.til then (8 : Int) else 0) else phasesF r.overs (r.power.drop (k + 1)) (prevP r.power (k + 1)) := by
              rw [hzz', prevP_succ hk0 (by omega), phaErr_some hB, ← hx]
            rw [← hx] at q0 q1 q2
            have g1 : decide ((0 : Int) < (k : Int)) = true := decide_eq_true (by omega)
            have g2 : decide (0 < k) = true := decide_eq_true (by omega)
            have s1 : IntKind.i64.wrap ((k : Int) - 1) = (k : Int) - 1 := IntWalk.i64_in _ (by omega)
            have s2 : (0 : Int) ≤ (k : Int) - 1 := by omega
            have s3 : ((k : Int) - 1).toNat = k - 1 := by omega
            have s4 : (k : Int) - 1 < (r.power.length : Int) := by omega
            by_cases hle : pf ≤ x.til
            · rw [if_pos hle, if_pos (by decide)] at hz2
              have HZZ := Lib.hid hz2
              have g3 : decide (pf ≤ x.til) = true := decide_eq_true hle
              clear hb ha hzz hzz' hkb hp hz2 hB hk0 hx
              go_wp2_with (go_at_call 74; refine (ref_in _ _ _ _).mono ?_; rintro e w2 ⟨rfl, rfl⟩)
              go_quiet (fail)
              go_wp2
              go_ret
              exact ⟨ret_i HZZ.out.symm, Below.drewN_ (Below.alloc HB.out HB.out.size _) _⟩
            · rw [if_neg hle, if_neg (by decide)] at hz2
              have HZZ := Lib.hid hz2
              have g3 : decide (pf ≤ x.til) = false := decide_eq_false hle
              clear hb ha hzz hzz' hkb hp hz2 hB hk0 hx
              go_wp2_with (go_at_call 74; refine (ref_in _ _ _ _).mono ?_; rintro e w2 ⟨rfl, rfl⟩)
              go_quiet (fail)
              go_wp2
              go_roundw
              case rel => exact ⟨k + 1, by omega, by go_num, Below.drewN_ (Below.alloc HB.out HB.out.size _) _, HAA.out.below (Below.drewN_ (Below.alloc (Below.refl _ _) (Nat.le_refl _) _) _), HZZ.out⟩
              case measure => simp [intOf]; omega
      · obtain rfl : k = r.power.length := by omega
        have hzz' := hzz.out
        rw [phasesF_end (Nat.le_refl _)] at hzz'
        have HZZ := Lib.hid hzz'
        clear hb ha hzz hzz'
        go_wp2
        go_ret
        exact ⟨ret_i HZZ.out.symm, HB.out⟩
set_option maxRecDepth 100000 in
set_option maxHeartbeats 4000000 in
theorem ref_RCheck_C6 (r : Rul) (pv : Value) (w : World) (h : Sl 3 elPha w (· < w.heap.size) pv r.power) (hn : r.name.length ≤ 1000000000) (h1 : nameS r.name = true) (h2 : inRangeS r = true) (f1 : (r.follow != 0) = false) (o1 : (r.overs == 0) = false) (q1 : (r.quota != 0) = false) :
    Calls Tryz.prog 36 #[rulV r pv] w fun e w' => e = .returned (.int .i64 (phasesS r)) ∧ Below w.heap.size w w' := by
  obtain ⟨z, hz⟩ : ∃ z, z = phasesS r := ⟨_, rfl⟩
  rw [← hz]
  unfold phasesS at hz
  obtain ⟨A, c, rfl, hc, hc2⟩ := h.shape
  have hA := RulAt.new h
  have hb0 : Below w.heap.size w (w.alloc (.cells (rulCells r (.slice A r.power.length c)) 25)) := Below.alloc (Below.refl _ _) (Nat.le_refl _) _
  have HB0 := Lib.hid hb0
  have hnm : ∀ W, Below w.heap.size w W → RulAt W w.heap.size r (.slice A r.power.length c) → Calls Tryz.prog 73 #[.string (S r.name)] W fun e W' => e = .returned (.bool (nameS r.name)) ∧ Below w.heap.size w W' ∧ RulAt W' w.heap.size r (.slice A r.power.length c) := fun W h1 h2 => by
    refine (ref_Name (S r.name) W (by simp only [S_size, maxLen]; omega)).mono ?_
    rintro e W' ⟨rfl, rfl⟩
    exact ⟨rfl, h1, h2⟩
  have HA := Lib.hid hA
  have H := Lib.hid h
  unfold rulCells at HA HB0
  have HNM := Lib.hid hnm
  clear h hA hb0 hnm
  unfold rulV rulCells
  obtain ⟨⟨a1, a2⟩, _, ⟨a3, a4⟩, _, ⟨a5, a6⟩, _⟩ := (inRangeS_iff r).1 h2
  have m1 : 0 ≤ r.quota * r.side := Int.mul_nonneg a5 (by omega)
  have m2 : r.quota * r.side ≤ 990 := by
    have := Int.mul_le_mul a6 a2 (by omega) (by omega)
    omega
  unfold inRangeS at h2
  simp only [Bool.and_eq_true] at h2
  obtain ⟨⟨⟨⟨⟨⟨⟨⟨⟨⟨e0, e1⟩, e2⟩, e3⟩, e4⟩, e5⟩, e6⟩, e7⟩, e8⟩, e9⟩, e10⟩ := h2
  by_cases h8 : 8 < r.power.length
  · rw [if_pos h8] at hz
    have HZ := Lib.hid hz
    have h8' : (8 : Int) < (r.power.length : Int) := by omega
    clear hz
    as_aux_lemma =>
      go_enter Tryz.func36, Tryz.ntmps36
      go_wp2_with (first | (go_at_call 73; refine (HNM.out _ HB0.out HA.out).mono ?_; rintro e w2 ⟨rfl, hb2, hr2⟩; obtain ⟨y0, y1, y2, y3, y4, y5, y6, y7, y8, y9, y10, y11, y12, y13⟩ := hr2.cells; have HB2 := Lib.hid hb2; have HR2 := Lib.hid hr2; clear hb2 hr2) | (go_at_call 74; refine (ref_in _ _ _ _).mono ?_; rintro e w3 ⟨rfl, rfl⟩))
      go_ret
      exact ⟨ret_i HZ.out.symm, HB2.out⟩
  · rw [if_neg h8] at hz
    have h8' : (r.power.length : Int) ≤ 8 := by omega
    have HZ := Lib.hid hz
    clear hz
    go_enter Tryz.func36, Tryz.ntmps36
    go_wp2_with (first | (go_at_call 73; refine (HNM.out _ HB0.out HA.out).mono ?_; rintro e w2 ⟨rfl, hb2, hr2⟩; obtain ⟨y0, y1, y2, y3, y4, y5, y6, y7, y8, y9, y10, y11, y12, y13⟩ := hr2.cells; have HB2 := Lib.hid hb2; have HR2 := Lib.hid hr2; clear hb2 hr2) | (go_at_call 74; refine (ref_in _ _ _ _).mono ?_; rintro e w3 ⟨rfl, rfl⟩))
    clear f1 o1 q1 e0 e1 e2 e3 e4 e5 e6 e7 e8 e9 e10 h1 m1 m2 a1 a2 a3 a4 a5 a6 y0 y1 y2 y3 y4 y5 y6 y7 y8 y9 y10 y11 y12 y13
    go_loopw [117] (fun i wr => ∃ k : Nat, k ≤ r.power.length ∧ i = .int .i64 k ∧ Below w.heap.size w wr ∧ RulAt wr w.heap.size r (.slice A r.power.length c) ∧ Hid (z = phasesF r.overs (r.power.drop k) (prevP r.power k)))
      (fun i _ => r.power.length - (intOf i).toNat)
    case atStart => exact ⟨0, Nat.zero_le _, rfl, HB2.out, HR2.out, HZ.out⟩
    case round =>
      obtain ⟨k, hk, rfl, hb, ha, hzz⟩ := hrel
      have HB := Lib.hid hb
      have HAA := Lib.hid ha
      by_cases hlt : k < r.power.length
      · obtain ⟨b, o, rfl, hbl, y0, y1, y2⟩ := pha_at ha.sl hlt
        have hzz' := hzz.out
        rw [phasesF_at hlt] at hzz'
        obtain ⟨⟨pf, pt, po⟩, hp⟩ : ∃ p, p = r.power[k] := ⟨_, rfl⟩
        rw [← hp] at y0 y1 y2 hzz'
        have hkb := ha.blk
        have hg := hkb.lt
        unfold rulCells at hkb
        have x3 := hkb.cell 3
        have x13 := hkb.cell 13
        simp only [List.getElem?_toArray, List.getElem?_cons_zero, List.getElem?_cons_succ] at x3 x13
        have HP := Lib.hid hp
        rcases phaB_ways r.overs ⟨pf, pt, po⟩ with ⟨hB, hw⟩ | ⟨hB, e1, e2, e3, e4⟩
        · have hz2 : z = 2 := by rw [hzz', phaErr_two hB]; rfl
          have HZZ := Lib.hid hz2
          clear hb ha hzz hzz' hkb hp hz2 hB
          rcases hw with e1 | ⟨e1, e2⟩ | ⟨e1, e2, e3⟩ | ⟨e1, e2, e3, e4⟩
          all_goals
            dsimp only at *
            go_wp2_with (go_at_call 74; refine (ref_in _ _ _ _).mono ?_; rintro e w2 ⟨rfl, rfl⟩)
            go_ret
            exact ⟨ret_i HZZ.out.symm, Below.alloc HB.out HB.out.size _⟩
        · dsimp only at e1 e2 e3 e4
          by_cases hk0 : k = 0
          · have hz2 : z = phasesF r.overs (r.power.drop (k + 1)) (prevP r.power (k + 1)) := by
              rw [hzz', hk0, prevP_zero, phaErr_none hB]; rfl
            have HZZ := Lib.hid hz2
            have g1 : decide ((0 : Int) < (k : Int)) = false := decide_eq_false (by omega)
            have g2 : decide (0 < k) = false := decide_eq_false (by omega)
            clear hb ha hzz hzz' hkb hp hz2 hB hk0
            go_wp2_with (go_at_call 74; refine (ref_in _ _ _ _).mono ?_; rintro e w2 ⟨rfl, rfl⟩)
            go_quiet (fail)
            go_wp2
            go_roundw
            case rel => exact ⟨k + 1, by omega, by go_num, Below.drewN_ (Below.alloc HB.out HB.out.size _) _, HAA.out.below (Below.drewN_ (Below.alloc (Below.refl _ _) (Nat.le_refl _) _) _), HZZ.out⟩
            case measure => simp [intOf]; omega
          · obtain ⟨b', o', hbo, hbl', q0, q1, q2⟩ := pha_at ha.sl (k := k - 1) (by omega)
            simp only [Option.some.injEq, Addr.mk.injEq] at hbo
            obtain ⟨rfl, rfl, _⟩ := hbo
            obtain ⟨x, hx⟩ : ∃ x, x = r.power[k - 1]'(by omega) := ⟨_, rfl⟩
            have hz2 : z = if (if pf ≤ x.til then (8 : Int) else 0) ≠ 0 then (if pf ≤ x.til then (8 : Int) else 0) else phasesF r.overs (r.power.drop (k + 1)) (prevP r.power (k + 1)) := by
              rw [hzz', prevP_succ hk0 (by omega), phaErr_some hB, ← hx]
            rw [← hx] at q0 q1 q2
            have g1 : decide ((0 : Int) < (k : Int)) = true := decide_eq_true (by omega)
            have g2 : decide (0 < k) = true := decide_eq_true (by omega)
            have s1 : IntKind.i64.wrap ((k : Int) - 1) = (k : Int) - 1 := IntWalk.i64_in _ (by omega)
            have s2 : (0 : Int) ≤ (k : Int) - 1 := by omega
            have s3 : ((k : Int) - 1).toNat = k - 1 := by omega
            have s4 : (k : Int) - 1 < (r.power.length : Int) := by omega
            by_cases hle : pf ≤ x.til
            · rw [if_pos hle, if_pos (by decide)] at hz2
              have HZZ := Lib.hid hz2
              have g3 : decide (pf ≤ x.til) = true := decide_eq_true hle
              clear hb ha hzz hzz' hkb hp hz2 hB hk0 hx
              go_wp2_with (go_at_call 74; refine (ref_in _ _ _ _).mono ?_; rintro e w2 ⟨rfl, rfl⟩)
              go_quiet (fail)
              go_wp2
              go_ret
              exact ⟨ret_i HZZ.out.symm, Below.drewN_ (Below.alloc HB.out HB.out.size _) _⟩
            · rw [if_neg hle, if_neg (by decide)] at hz2
              have HZZ := Lib.hid hz2
              have g3 : decide (pf ≤ x.til) = false := decide_eq_false hle
              clear hb ha hzz hzz' hkb hp hz2 hB hk0 hx
              go_wp2_with (go_at_call 74; refine (ref_in _ _ _ _).mono ?_; rintro e w2 ⟨rfl, rfl⟩)
              go_quiet (fail)
              go_wp2
              go_roundw
              case rel => exact ⟨k + 1, by omega, by go_num, Below.drewN_ (Below.alloc HB.out HB.out.size _) _, HAA.out.below (Below.drewN_ (Below.alloc (Below.refl _ _) (Nat.le_refl _) _) _), HZZ.out⟩
              case measure => simp [intOf]; omega
      · obtain rfl : k = r.power.length := by omega
        have hzz' := hzz.out
        rw [phasesF_end (Nat.le_refl _)] at hzz'
        have HZZ := Lib.hid hzz'
        clear hb ha hzz hzz'
        go_wp2
        go_ret
        exact ⟨ret_i HZZ.out.symm, HB.out⟩
end Go.Proofs.YtglkejlimeakbaaGreatDoor

namespace Go.Proofs.YtglkejlimeakbaaGreatDoor
open Go.RowKit

theorem ref_RCheck (r : Rul) (pv : Value) (w : World) (h : Sl 3 elPha w (· < w.heap.size) pv r.power) (hn : r.name.length ≤ 1000000000) :
    Calls Tryz.prog 36 #[rulV r pv] w fun e w' => e = .returned (.int .i64 (checkR r)) ∧ Below w.heap.size w w' := by
  cases h1 : nameS r.name
  · exact ref_RCheck_bad r pv w h hn (.inl h1)
  · cases h2 : inRangeS r
    · exact ref_RCheck_bad r pv w h hn (.inr h2)
    · rw [checkR_mid h1 h2]
      have hz : midErr r = midErr r := rfl
      obtain ⟨z, hz⟩ : ∃ z, z = midErr r := ⟨_, rfl⟩
      rw [← hz]
      unfold midErr at hz
      have ll : ∀ b, decide (0 < r.power.length) = b → decide ((0 : Int) < (r.power.length : Int)) = b := fun b hb => by rw [← hb]; simp
      rcases band (r.follow != 0) (r.inns == 1) with ⟨f1, f2⟩ | ⟨f1, f2⟩ | f1
      · rw [show z = 1 by rw [hz]; simp [f1, f2]]; exact ref_RCheck_A r pv w h hn h1 h2 f1 f2
      · rcases boor (r.overs == 0) with o1 | o1
        · rcases boor (r.quota != 0) with q1 | q1
          · rw [show z = 1 by rw [hz]; simp [f1, f2, o1, q1]]; exact ref_RCheck_B1 r pv w h hn h1 h2 f1 f2 o1 q1
          · rcases boor (decide (0 < r.power.length)) with l1 | l1
            · rw [show z = 1 by rw [hz]; simp [f1, f2, o1, q1, l1]]; exact ref_RCheck_B2 r pv w h hn h1 h2 f1 f2 o1 q1 l1 (ll _ l1)
            · rw [show z = phasesS r by rw [hz]; simp [f1, f2, o1, q1, l1]]; exact ref_RCheck_B3 r pv w h hn h1 h2 f1 f2 o1 q1 l1 (ll _ l1)
        · rcases boor (r.quota != 0) with q1 | q1
          · rcases boor (decide (r.quota * r.side < r.overs)) with p1 | p1
            · rw [show z = 13 by rw [hz]; simp [f1, f2, o1, q1, p1]]; exact ref_RCheck_B4 r pv w h hn h1 h2 f1 f2 o1 q1 p1
            · rw [show z = phasesS r by rw [hz]; simp [f1, f2, o1, q1, p1]]; exact ref_RCheck_B5 r pv w h hn h1 h2 f1 f2 o1 q1 p1
          · rw [show z = phasesS r by rw [hz]; simp [f1, f2, o1, q1]]; exact ref_RCheck_B6 r pv w h hn h1 h2 f1 f2 o1 q1
      · rcases boor (r.overs == 0) with o1 | o1
        · rcases boor (r.quota != 0) with q1 | q1
          · rw [show z = 1 by rw [hz]; simp [f1, o1, q1]]; exact ref_RCheck_C1 r pv w h hn h1 h2 f1 o1 q1
          · rcases boor (decide (0 < r.power.length)) with l1 | l1
            · rw [show z = 1 by rw [hz]; simp [f1, o1, q1, l1]]; exact ref_RCheck_C2 r pv w h hn h1 h2 f1 o1 q1 l1 (ll _ l1)
            · rw [show z = phasesS r by rw [hz]; simp [f1, o1, q1, l1]]; exact ref_RCheck_C3 r pv w h hn h1 h2 f1 o1 q1 l1 (ll _ l1)
        · rcases boor (r.quota != 0) with q1 | q1
          · rcases boor (decide (r.quota * r.side < r.overs)) with p1 | p1
            · rw [show z = 13 by rw [hz]; simp [f1, o1, q1, p1]]; exact ref_RCheck_C4 r pv w h hn h1 h2 f1 o1 q1 p1
            · rw [show z = phasesS r by rw [hz]; simp [f1, o1, q1, p1]]; exact ref_RCheck_C5 r pv w h hn h1 h2 f1 o1 q1 p1
          · rw [show z = phasesS r by rw [hz]; simp [f1, o1, q1]]; exact ref_RCheck_C6 r pv w h hn h1 h2 f1 o1 q1
end Go.Proofs.YtglkejlimeakbaaGreatDoor

namespace Go.Proofs.YtglkejlimeakbaaGreatDoor
open Go.RowKit

def allB (over : Int) (p : Pha) : Bool := decide (p.fr ≤ over + 1) && decide (over + 1 ≤ p.til)
def allowedF (over d : Int) : List Pha → Int
  | [] => d
  | p :: ps => if allB over p = true then p.out else allowedF over d ps
def allowedS (r : Rul) (over : Int) : Int := allowedF over r.outside r.power
def mostS (r : Rul) : Int := if checkR r ≠ 0 then 0 else r.overs * r.balls
theorem rng_most {r : Rul} (h : checkR r = 0) : 0 ≤ r.overs ∧ r.overs ≤ 90 ∧ 4 ≤ r.balls ∧ r.balls ≤ 8 ∧ IntKind.i64.wrap (r.overs * r.balls) = r.overs * r.balls := by
  have h2 : inRangeS r = true := by
    cases hx : inRangeS r
    · unfold checkR headErr at h
      cases hn : nameS r.name
      · simp [hn] at h
      · simp [hn, hx] at h
    · rfl
  obtain ⟨_, _, ⟨a, b⟩, ⟨c, d⟩, _⟩ := (inRangeS_iff r).1 h2
  have e1 := Int.mul_nonneg a (show (0 : Int) ≤ r.balls by omega)
  have e2 := Int.mul_le_mul b d (show (0 : Int) ≤ r.balls by omega) (show (0 : Int) ≤ 90 by omega)
  exact ⟨a, b, c, d, IntWalk.i64_in _ (by omega)⟩

set_option maxRecDepth 100000 in
set_option maxHeartbeats 2000000 in
theorem rul_Allowed (r : Rul) (pv : Value) (over : Int) (w : World) (h : Sl 3 elPha w (· < w.heap.size) pv r.power) (ho0 : -4294967296 ≤ over) (ho1 : over ≤ 4294967296) : Calls Tryz.prog 21 #[rulV r pv, .int .i64 over] w fun e w' => e = .returned (.int .i64 (allowedS r over)) ∧ Below w.heap.size w w' := by
  obtain ⟨z, hz⟩ : ∃ z, z = allowedS r over := ⟨_, rfl⟩
  rw [← hz]
  unfold allowedS at hz
  obtain ⟨A, c, rfl, hc, hc2⟩ := h.shape
  have hA := RulAt.new h
  have hb0 : Below w.heap.size w (w.alloc (.cells (rulCells r (.slice A r.power.length c)) 25)) := Below.alloc (Below.refl _ _) (Nat.le_refl _) _
  unfold rulV
  unfold rulCells at *
  have HZ := Lib.hid hz
  have HA := Lib.hid hA
  have HB0 := Lib.hid hb0
  clear hz hA h hb0
  go_enter Tryz.func21, Tryz.ntmps21
  go_wp2
  go_loopw [10] (fun i wr => ∃ k : Nat, k ≤ r.power.length ∧ i = .int .i64 k ∧ Below w.heap.size w wr ∧ RulAt wr w.heap.size r (.slice A r.power.length c) ∧ Hid (z = allowedF over r.outside (r.power.drop k)))
    (fun i _ => r.power.length - (intOf i).toNat)
  case atStart => exact ⟨0, Nat.zero_le _, rfl, HB0.out, HA.out, HZ.out⟩
  case round =>
    obtain ⟨k, hk, rfl, hb, ha, hzz⟩ := hrel
    have HB := Lib.hid hb
    have HAA := Lib.hid ha
    by_cases hlt : k < r.power.length
    · obtain ⟨b, o, rfl, hbl, y0, y1, y2⟩ := pha_at ha.sl hlt
      have hzz' := hzz.out
      rw [List.drop_eq_getElem_cons hlt, allowedF] at hzz'
      obtain ⟨⟨pf, pt, po⟩, hp⟩ : ∃ p, p = r.power[k] := ⟨_, rfl⟩
      rw [← hp] at y0 y1 y2 hzz'
      dsimp only at y0 y1 y2
      unfold allB at hzz'
      dsimp only at hzz'
      by_cases h1 : pf ≤ over + 1
      · have g1 : decide (pf ≤ over + 1) = true := decide_eq_true h1
        by_cases h2 : over + 1 ≤ pt
        · have g2 : decide (over + 1 ≤ pt) = true := decide_eq_true h2
          rw [g1, g2, if_pos (by rfl)] at hzz'
          have HZZ := Lib.hid hzz'
          clear hb ha hzz hzz' hp
          go_wp2
          go_ret
          exact ⟨ret_i HZZ.out.symm, Below.alloc HB.out HB.out.size _⟩
        · have g2 : decide (over + 1 ≤ pt) = false := decide_eq_false h2
          rw [g1, g2, if_neg (by simp)] at hzz'
          have HZZ := Lib.hid hzz'
          clear hb ha hzz hzz' hp
          go_wp2
          go_roundw
          case rel => exact ⟨k + 1, by omega, by go_num, Below.alloc HB.out HB.out.size _, HAA.out.below (Below.alloc (Below.refl _ _) (Nat.le_refl _) _), HZZ.out⟩
          case measure => simp [intOf]; omega
      · have g1 : decide (pf ≤ over + 1) = false := decide_eq_false h1
        rw [g1, if_neg (by simp)] at hzz'
        have HZZ := Lib.hid hzz'
        clear hb ha hzz hzz' hp
        go_wp2
        go_roundw
        case rel => exact ⟨k + 1, by omega, by go_num, Below.alloc HB.out HB.out.size _, HAA.out.below (Below.alloc (Below.refl _ _) (Nat.le_refl _) _), HZZ.out⟩
        case measure => simp [intOf]; omega
    · have hzz' := hzz.out
      rw [List.drop_of_length_le (by omega), allowedF] at hzz'
      have HZZ := Lib.hid hzz'
      have x12 : wr.cell? ⟨w.heap.size, 12, none⟩ = some (.int .i64 r.outside) := ha.blk.cell 12
      clear hb ha hzz hzz'
      go_wp2
      go_ret
      exact ⟨ret_i HZZ.out.symm, HB.out⟩
set_option maxRecDepth 100000 in
set_option maxHeartbeats 2000000 in
theorem rul_Most (r : Rul) (pv : Value) (w : World) (h : Sl 3 elPha w (· < w.heap.size) pv r.power) (hn : r.name.length ≤ 1000000000) : Calls Tryz.prog 20 #[rulV r pv] w fun e w' => e = .returned (.int .i64 (mostS r)) ∧ Below w.heap.size w w' := by
  obtain ⟨z, hz⟩ : ∃ z, z = mostS r := ⟨_, rfl⟩
  rw [← hz]
  unfold mostS at hz
  obtain ⟨A, c, rfl, hc, hc2⟩ := h.shape
  have hA := RulAt.new h
  have hb0 : Below w.heap.size w (w.alloc (.cells (rulCells r (.slice A r.power.length c)) 25)) := Below.alloc (Below.refl _ _) (Nat.le_refl _) _
  obtain ⟨W, hW⟩ : ∃ W, W = w.alloc (.cells (rulCells r (.slice A r.power.length c)) 25) := ⟨_, rfl⟩
  rw [← hW] at hA hb0
  have kc : Calls Tryz.prog 28 #[rulV r (.slice A r.power.length c)] W fun e w' => e = .returned (.int .i64 (checkR r)) ∧ Below w.heap.size w w' ∧ RulAt w' w.heap.size r (.slice A r.power.length c) := by
    refine (rul_Check r _ W hA.sl hn).mono ?_
    rintro e w' ⟨rfl, hb⟩
    exact ⟨rfl, hb0.trans (hb.mono hb0.size), hA.below hb⟩
  rw [hW] at kc
  by_cases hc0 : checkR r = 0
  · rw [if_neg (fun k => k hc0)] at hz
    rw [hc0] at kc
    obtain ⟨b1, b2, b3, b4, b5⟩ := rng_most hc0
    unfold rulV rulCells at kc
    have KC := Lib.hid kc
    have HZ := Lib.hid hz
    have B5 := Lib.hid b5
    clear kc hz hA h hb0 hc0 b5
    unfold rulV rulCells
    go_enter Tryz.func20, Tryz.ntmps20
    go_wp2_with (go_at_call 28; refine KC.out.mono ?_; rintro e w2 ⟨rfl, hb2, hr2⟩; have x3 : w2.cell? ⟨w.heap.size, 3, none⟩ = some (.int .i64 r.overs) := hr2.blk.cell 3; have x4 : w2.cell? ⟨w.heap.size, 4, none⟩ = some (.int .i64 r.balls) := hr2.blk.cell 4; have HB2 := Lib.hid hb2; clear hb2 hr2; have b5 := B5.out)
    go_ret
    exact ⟨ret_i HZ.out.symm, HB2.out⟩
  · rw [if_pos hc0] at hz
    obtain ⟨z9, hz9⟩ : ∃ z9, z9 = checkR r := ⟨_, rfl⟩
    rw [← hz9] at kc hc0
    have g1 : (z9 != 0) = true := by rw [bne_iff_ne]; exact hc0
    unfold rulV rulCells at kc
    have KC := Lib.hid kc
    have HZ := Lib.hid hz
    clear kc hz hA h hb0 hc0 hz9
    unfold rulV rulCells
    go_enter Tryz.func20, Tryz.ntmps20
    go_wp2_with (go_at_call 28; refine KC.out.mono ?_; rintro e w2 ⟨rfl, hb2, hr2⟩; have HB2 := Lib.hid hb2; clear hb2 hr2)
    go_ret
    exact ⟨ret_i HZ.out.symm, HB2.out⟩

end Go.Proofs.YtglkejlimeakbaaGreatDoor

namespace Go.Proofs.YtglkejlimeakbaaGreatDoor
open Go.RowKit

set_option maxRecDepth 100000 in
set_option maxHeartbeats 2000000 in
theorem cur_Int (c : Cur) (lo hi : Int) (F : Nat → Prop) (g : Nat) (w : World) (h : CurAt w F g c) (hlen : ∀ f ∈ c.fields, f.text.length ≤ 1000000000) (hg : ∀ W, Only g w W → GlobN W) :
    Calls Tryz.prog 59 #[.pointer (some ⟨g, 0, none⟩), .int .i64 lo, .int .i64 hi] w (IntCur w F g (c.intP lo hi)) := by
  obtain ⟨q, hq⟩ : ∃ q, q = c.intP lo hi := ⟨_, rfl⟩
  rw [← hq]
  unfold Cur.intP at hq
  have hrd := cur_read c false F g w h
  have htl := Cur.read_text c false hlen
  obtain ⟨⟨c', t, ok⟩, hr⟩ : ∃ r, r = c.read false := ⟨_, rfl⟩
  rw [← hr] at hrd hq htl
  dsimp only at htl
  have HRD := Lib.hid hrd
  clear hrd hr h hlen
  cases ok
  · have HQ := Lib.hid hq
    clear hq hg
    go_enter Tryz.func59, Tryz.ntmps59
    go_wp2_with (go_at_call 106; refine HRD.out.mono ?_; rintro e w2 ⟨rfl, hc2, ho2⟩)
    go_ret
    rw [HQ.out, if_neg (by simp)]
    exact ⟨rfl, hc2, ho2⟩
  · dsimp only at hq
    rw [if_pos rfl] at hq
    have kn0 : ∀ W, Only g w W → Calls Tryz.prog 77 #[.string (S t), .int .i64 lo, .int .i64 hi] W fun e W' => e = .returned (.tuple #[.int .i64 (numberS t lo hi).1, .int .i64 (numberS t lo hi).2]) ∧ Below W.heap.size W W' := fun W hW => by
      have := text_Number (S t) lo hi W (hg W hW) (by rw [S_size]; omega)
      rw [S_data] at this
      exact this
    obtain ⟨⟨v, er⟩, hv⟩ : ∃ z, z = numberS t lo hi := ⟨_, rfl⟩
    rw [← hv] at hq kn0
    have HQ := Lib.hid hq
    have KN := Lib.hid kn0
    clear hq hg hv kn0 htl
    go_enter Tryz.func59, Tryz.ntmps59
    go_wp2_with (first
      | (go_at_call 106; refine HRD.out.mono ?_; rintro e w2 ⟨rfl, hc2, ho2⟩; have HC2 := Lib.hid hc2; have HO2 := Lib.hid ho2; clear hc2 ho2)
      | (go_at_call 77; refine (KN.out _ HO2.out).mono ?_; rintro e w3 ⟨rfl, hb3⟩; have hc3 := HC2.out.below hb3; have c3 := hc3.last; have HC3 := Lib.hid hc3; have HO3 := Lib.hid (HO2.out.trans (Only.of_below hb3)); clear hc3 hb3)
      | (go_at_call 107; refine (cur_fail c' er c'.last F g _ HC3.out).mono ?_; rintro e w4 ⟨rfl, hc4, ho4⟩))
    go_ret
    rw [HQ.out]
    exact ⟨rfl, hc4, HO3.out.trans ho4⟩
end Go.Proofs.YtglkejlimeakbaaGreatDoor

namespace Go.Proofs.YtglkejlimeakbaaGreatDoor
open Go.RowKit

theorem E_pha : ElemOf Tryz.prog 23 72 3 24 := ElemOf.mk (z := .agg #[.int .i64 0, .int .i64 0, .int .i64 0]) Tryz.underlying23 (by kernel_rfl) rfl (by decide)
/-- While rules are read: they lie in the block w2.heap.size, the cursor in block g. -/
structure RC (w2 Wb : World) (g : Nat) (F : Nat → Prop) (W : World) (q : Rul) (c : Cur) : Prop where
  ex : ∃ pv, Blk W w2.heap.size 25 (rulCells q pv) ∧ OwnSl 3 elPha 72 (w2.heap.size + 1) W pv q.power ∧ (∀ b, F b → pv.ownBlock ≠ some b)
  cur : ∃ a, CurAt W F g a ∧ Cur.sim a c
  bel : Below w2.heap.size w2 W
  hg : w2.heap.size < g
  hF : ¬ F w2.heap.size
  len : ∀ f ∈ c.fields, f.text.length ≤ 1000
  sm : Same F Wb W
section
variable {w2 Wb : World} {g : Nat} {F : Nat → Prop} {W W' : World} {q q' : Rul} {c c' : Cur}
theorem RC.lt (h : RC w2 Wb g F W q c) : w2.heap.size < W.heap.size := let ⟨_, hk, _⟩ := h.ex; hk.lt
theorem RC.only (h : RC w2 Wb g F W q c) (ho : Only g W W') {a : Cur} (hc : CurAt W' F g a) (hs : Cur.sim a c') (hf : c'.fields = c.fields) : RC w2 Wb g F W' q c' := by
  obtain ⟨pv, hk, hown, hF⟩ := h.ex
  obtain ⟨a0, hc0, _⟩ := h.cur
  have hgl := h.hg
  refine ⟨⟨pv, hk.grown ho (by simp; omega), hown.grown elPha_good ho fun b hb e => ?_, hF⟩, ⟨a, hc, hs⟩, h.bel.trans (ho.below (Nat.le_of_lt h.hg) (Nat.le_of_lt h.lt)), h.hg, h.hF, by rw [hf]; exact h.len, h.sm.trans (ho.same fun b hb => hc0.foot b hb)⟩
  have : g = b := Option.some.inj e
  subst this
  exact hc0.ne_own hown (by decide) hb
theorem RC.below (h : RC w2 Wb g F W q c) (hb : Below W.heap.size W W') : RC w2 Wb g F W' q c := by
  obtain ⟨pv, hk, hown, hF⟩ := h.ex
  obtain ⟨a, hc, hs⟩ := h.cur
  exact ⟨⟨pv, hk.below hb hk.lt, hown.below elPha_good hb, hF⟩, ⟨a, hc.below hb, hs⟩, h.bel.trans (hb.mono (Nat.le_of_lt h.lt)), h.hg, h.hF, h.len, h.sm.trans (Same.below hb fun b hb => (hc.foot b hb).1)⟩
theorem RC.set (h : RC w2 Wb g F W q c) (f : Nat) (u : Value) (hq : ∀ pv, (rulCells q pv).setIfInBounds f u = rulCells q' pv) (hp : q'.power = q.power) : RC w2 Wb g F (W.setCell ⟨w2.heap.size, f, none⟩ u) q' c := by
  obtain ⟨pv, hk, hown, hF⟩ := h.ex
  obtain ⟨a, hc, hs⟩ := h.cur
  have hgl := h.hg
  refine ⟨⟨pv, ?_, ?_, hF⟩, ⟨a, hc.far (by omega) h.hF _ rfl _, hs⟩, h.bel.setCell (Nat.le_refl _) _, h.hg, h.hF, h.len, h.sm.trans fun b hb => Below.heap_setCell W ⟨w2.heap.size, f, none⟩ u b (fun e => h.hF (by rw [show w2.heap.size = b from e.symm]; exact hb))⟩
  · rw [← hq pv]; exact hk.set_ f u
  · rw [hp]; exact hown.grown elPha_good ((Only.refl w2.heap.size W).setCell (p := ⟨w2.heap.size, f, none⟩) (.inl rfl) _) fun b hb e => own_ne hown hk (by decide) (by rw [hb, e])
/-- The two boxes of the closures: the cursor's pointer, the reader of a number. -/
structure RD (w2 Wb : World) (g : Nat) (F : Nat → Prop) (bc bf : Nat) (W : World) (q : Rul) (c : Cur) : Prop extends RC w2 Wb g F W q c where
  kc : Blk W bc 57 #[.pointer (some ⟨g, 0, none⟩)]
  kf : Blk W bf 103 #[.func (.func 58) #[] #[.pointer (some ⟨bc, 0, none⟩)]]
  nc : bc ≠ g
  nf : bf ≠ g
  mc : bc ≠ w2.heap.size
  mf : bf ≠ w2.heap.size
variable {bc bf : Nat}
theorem RD.only (h : RD w2 Wb g F bc bf W q c) (ho : Only g W W') {a : Cur} (hc : CurAt W' F g a) (hs : Cur.sim a c') (hf : c'.fields = c.fields) : RD w2 Wb g F bc bf W' q c' :=
  ⟨h.toRC.only ho hc hs hf, h.kc.grown ho (by simpa using fun e => h.nc e.symm), h.kf.grown ho (by simpa using fun e => h.nf e.symm), h.nc, h.nf, h.mc, h.mf⟩
theorem RD.set (h : RD w2 Wb g F bc bf W q c) (f : Nat) (u : Value) (hq : ∀ pv, (rulCells q pv).setIfInBounds f u = rulCells q' pv) (hp : q'.power = q.power) : RD w2 Wb g F bc bf (W.setCell ⟨w2.heap.size, f, none⟩ u) q' c :=
  ⟨h.toRC.set f u hq hp, h.kc.far h.mc _, h.kf.far h.mf _, h.nc, h.nf, h.mc, h.mf⟩
theorem RD.below (h : RD w2 Wb g F bc bf W q c) (hb : Below W.heap.size W W') : RD w2 Wb g F bc bf W' q c :=
  ⟨h.toRC.below hb, h.kc.below hb h.kc.lt, h.kf.below hb h.kf.lt, h.nc, h.nf, h.mc, h.mf⟩
theorem RD.cells (h : RD w2 Wb g F bc bf W q c) : W.cell? ⟨bc, 0, none⟩ = some (.pointer (some ⟨g, 0, none⟩)) ∧ W.cell? ⟨bf, 0, none⟩ = some (.func (.func 58) #[] #[.pointer (some ⟨bc, 0, none⟩)]) := ⟨h.kc.cell 0, h.kf.cell 0⟩
theorem RC.spot (h : RC w2 Wb g F W q c) (f : Nat) (hf : f < 14) : (∃ u, W.cell? ⟨w2.heap.size, f, none⟩ = some u) ∧ W.frozen? ⟨w2.heap.size, f, none⟩ = false := by
  obtain ⟨pv, hk, _⟩ := h.ex
  refine ⟨?_, hk.frozen f⟩
  rw [hk.cell]
  exact ⟨_, Array.getElem?_eq_getElem (show f < (rulCells q pv).size from hf)⟩
theorem rd_Keyword (h : RD w2 Wb g F bc bf W q c) (kw : ByteArray) : Calls Tryz.prog 61 #[.pointer (some ⟨g, 0, none⟩), .string kw] W fun e W' => (∃ b, e = .returned (.bool b)) ∧ RD w2 Wb g F bc bf W' q (c.keyword kw.data.toList).1 := by
  obtain ⟨a, hc, hs⟩ := h.cur
  refine (cur_Keyword a kw F g W hc).mono ?_
  rintro e W' ⟨rfl, h1, h2⟩
  exact ⟨⟨_, rfl⟩, h.only h2 h1 (hs.keyword _).1 (Cur.keyword_fields _ _)⟩
theorem rd_Ident (h : RD w2 Wb g F bc bf W q c) : Calls Tryz.prog 62 #[.pointer (some ⟨g, 0, none⟩)] W fun e W' => e = .returned (.string (S c.ident.2)) ∧ RD w2 Wb g F bc bf W' q c.ident.1 := by
  obtain ⟨a, hc, hs⟩ := h.cur
  refine (cur_Ident a F g W hc fun f hf => by rw [hs.fields] at hf; have := h.len f hf; omega).mono ?_
  rintro e W' ⟨rfl, h1, h2⟩
  exact ⟨by rw [hs.ident.2], h.only h2 h1 hs.ident.1 (Cur.ident_fields _)⟩
theorem rd_Int (hgl : GlobN w2) (h : RD w2 Wb g F bc bf W q c) : Calls Tryz.prog 59 #[.pointer (some ⟨g, 0, none⟩), .int .i64 0, .int .i64 10000] W fun e W' => e = .returned (.int .i64 c.n.2) ∧ RD w2 Wb g F bc bf W' q c.n.1 := by
  obtain ⟨a, hc, hs⟩ := h.cur
  refine (cur_Int a 0 10000 F g W hc (fun f hf => by rw [hs.fields] at hf; have := h.len f hf; omega) fun W9 h9 => hgl.below (h.bel.trans (h9.below (Nat.le_of_lt h.hg) (Nat.le_of_lt h.lt)))).mono ?_
  rintro e W' ⟨rfl, h1, h2⟩
  have hi := hs.int 0 10000
  exact ⟨by rw [hi.2]; rfl, h.only h2 h1 hi.1 (Cur.int_fields _ _ _)⟩
end
theorem RD.one {w2 Wb : World} {g : Nat} {F : Nat → Prop} {W : World} {q : Rul} {c : Cur} (h : RC w2 Wb g F W q c) :
    RD w2 Wb g F W.heap.size (W.heap.size + 1) ((W.alloc (.cells #[.pointer (some ⟨g, 0, none⟩)] 57)).alloc (.cells #[.func (.func 58) #[] #[.pointer (some ⟨W.heap.size, 0, none⟩)]] 103)) q c := by
  have e : (W.alloc (.cells #[.pointer (some ⟨g, 0, none⟩)] 57)).heap.size = W.heap.size + 1 := by simp
  have k := Blk.new (W.alloc (.cells #[.pointer (some ⟨g, 0, none⟩)] 57)) 103 #[.func (.func 58) #[] #[.pointer (some ⟨W.heap.size, 0, none⟩)]]
  rw [e] at k
  have hl := h.lt
  obtain ⟨a, hc, _⟩ := h.cur
  have hcl := hc.lt
  exact ⟨h.below (Below.alloc (Below.alloc (Below.refl _ _) (Nat.le_refl _) _) (by simp) _), (Blk.new W _ _).alloc _, k, by omega, by omega, by omega, by omega⟩
set_option maxRecDepth 100000 in
set_option maxHeartbeats 2000000 in
theorem read1 {w2 Wb : World} {g : Nat} {F : Nat → Prop} {bc bf : Nat} {W : World} {q : Rul} {c : Cur} (hgl : GlobN w2) (h : RD w2 Wb g F bc bf W q c) :
    Calls Tryz.prog 58 #[.pointer (some ⟨bc, 0, none⟩)] W fun e W' => e = .returned (.int .i64 c.n.2) ∧ RD w2 Wb g F bc bf W' q c.n.1 := by
  obtain ⟨y0, y1⟩ := h.cells
  have K := Lib.hid (rd_Int hgl h)
  obtain ⟨v, hv⟩ : ∃ v, v = c.n.2 := ⟨_, rfl⟩
  rw [← hv] at K ⊢
  clear h hgl hv
  go_enter Tryz.func58, Tryz.ntmps58
  go_wp2_with (go_at_call 59; refine K.out.mono ?_; rintro e W' ⟨rfl, h1⟩; have H1 := Lib.hid h1; clear h1)
  go_ret
  exact ⟨rfl, H1.out⟩
set_option maxRecDepth 100000 in
set_option maxHeartbeats 2000000 in
theorem read2 {w2 Wb : World} {g : Nat} {F : Nat → Prop} {bc bf : Nat} {W : World} {q q' : Rul} {c : Cur} (hgl : GlobN w2) (h : RD w2 Wb g F bc bf W q c) (kw : ByteArray) (f : Nat) (hf : f < 14) (c' : Cur) (v : Int) (hcv : (c', v) = (c.keyword kw.data.toList).1.n)
    (hq : ∀ pv, (rulCells q pv).setIfInBounds f (.int .i64 v) = rulCells q' pv) (hp : q'.power = q.power) :
    Calls Tryz.prog 60 #[.string kw, .pointer (some ⟨w2.heap.size, f, none⟩), .pointer (some ⟨bc, 0, none⟩), .pointer (some ⟨bf, 0, none⟩)] W fun e W' => e = .returned (.tuple #[]) ∧ RD w2 Wb g F bc bf W' q' c' := by
  obtain ⟨y0, y1⟩ := h.cells
  have k1 := rd_Keyword h kw
  have k2 := fun W1 (h1 : RD w2 Wb g F bc bf W1 q (c.keyword kw.data.toList).1) => read1 hgl h1
  rw [← hcv] at k2
  generalize (c.keyword kw.data.toList).1 = cc at k1 k2
  have K1 := Lib.hid k1
  have K2 := Lib.hid k2
  have HQ := Lib.hid hq
  have HP := Lib.hid hp
  have tok0 : True := trivial
  clear h k1 k2 hgl hcv hq hp
  go_enter Tryz.func60, Tryz.ntmps60
  go_wp2_with (first
    | (clear tok0; go_at_call 61; refine K1.out.mono ?_; rintro e W1 ⟨⟨bb, rfl⟩, h1⟩; clear y0 y1; obtain ⟨y0, y1⟩ := h1.cells; have H1 := Lib.hid h1; clear h1; have tok1 : True := trivial)
    | (clear tok1; go_at_call 58; refine (K2.out _ H1.out).mono ?_; rintro e W2 ⟨rfl, h2⟩; obtain ⟨⟨u, z0⟩, z1⟩ := h2.spot f hf; have H2 := Lib.hid h2; clear h2; have tok2 : True := trivial))
  go_end0
  exact ⟨rfl, H2.out.set f _ HQ.out HP.out⟩
set_option maxRecDepth 100000 in
set_option maxHeartbeats 2000000 in
theorem read_1 {w2 Wb : World} {g : Nat} {F : Nat → Prop} {W : World} {q : Rul} {c : Cur} (hgl : GlobN w2) (h : RC w2 Wb g F W q c) :
    Calls Tryz.prog 26 #[.pointer (some ⟨w2.heap.size, 0, none⟩), .int .i64 1, .pointer (some ⟨g, 0, none⟩)] W fun e W' => e = .returned (.tuple #[]) ∧ RC w2 Wb g F W' (readR q 1 c).1 (readR q 1 c).2 := by
  have hd := RD.one h
  obtain ⟨y0, y1⟩ := hd.cells
  obtain ⟨⟨c', v⟩, hcv⟩ : ∃ x, x = (c.keyword kSIDE).1.n := ⟨_, rfl⟩
  have he : readR q 1 c = ({ q with side := v }, c') := by
    have : readR q 1 c = ({ q with side := (c.keyword kSIDE).1.n.2 }, (c.keyword kSIDE).1.n.1) := rfl
    rw [this, ← hcv]
  rw [he]
  have k1 := read2 hgl hd ⟨#[83, 73, 68, 69]⟩ 1 (by decide) c' v hcv (q' := { q with side := v }) (fun _ => rfl) rfl
  have K1 := Lib.hid k1
  clear h hd k1 hgl hcv he y0 y1
  go_enter Tryz.func26, Tryz.ntmps26
  go_wp2_with (go_at_call 60; refine K1.out.mono ?_; rintro e W1 ⟨rfl, h1⟩; have H1 := Lib.hid h1; clear h1)
  go_end0
  exact ⟨rfl, H1.out.toRC⟩
set_option maxRecDepth 100000 in
set_option maxHeartbeats 2000000 in
theorem read_2 {w2 Wb : World} {g : Nat} {F : Nat → Prop} {W : World} {q : Rul} {c : Cur} (hgl : GlobN w2) (h : RC w2 Wb g F W q c) :
    Calls Tryz.prog 26 #[.pointer (some ⟨w2.heap.size, 0, none⟩), .int .i64 2, .pointer (some ⟨g, 0, none⟩)] W fun e W' => e = .returned (.tuple #[]) ∧ RC w2 Wb g F W' (readR q 2 c).1 (readR q 2 c).2 := by
  have hd := RD.one h
  obtain ⟨y0, y1⟩ := hd.cells
  obtain ⟨⟨c', v⟩, hcv⟩ : ∃ x, x = (c.keyword kINNINGS).1.n := ⟨_, rfl⟩
  have he : readR q 2 c = ({ q with inns := v }, c') := by
    have : readR q 2 c = ({ q with inns := (c.keyword kINNINGS).1.n.2 }, (c.keyword kINNINGS).1.n.1) := rfl
    rw [this, ← hcv]
  rw [he]
  have k1 := read2 hgl hd ⟨#[73, 78, 78, 73, 78, 71, 83]⟩ 2 (by decide) c' v hcv (q' := { q with inns := v }) (fun _ => rfl) rfl
  have K1 := Lib.hid k1
  clear h hd k1 hgl hcv he y0 y1
  go_enter Tryz.func26, Tryz.ntmps26
  go_wp2_with (go_at_call 60; refine K1.out.mono ?_; rintro e W1 ⟨rfl, h1⟩; have H1 := Lib.hid h1; clear h1)
  go_end0
  exact ⟨rfl, H1.out.toRC⟩
set_option maxRecDepth 100000 in
set_option maxHeartbeats 2000000 in
theorem read_3 {w2 Wb : World} {g : Nat} {F : Nat → Prop} {W : World} {q : Rul} {c : Cur} (hgl : GlobN w2) (h : RC w2 Wb g F W q c) :
    Calls Tryz.prog 26 #[.pointer (some ⟨w2.heap.size, 0, none⟩), .int .i64 3, .pointer (some ⟨g, 0, none⟩)] W fun e W' => e = .returned (.tuple #[]) ∧ RC w2 Wb g F W' (readR q 3 c).1 (readR q 3 c).2 := by
  have hd := RD.one h
  obtain ⟨y0, y1⟩ := hd.cells
  obtain ⟨⟨c', v⟩, hcv⟩ : ∃ x, x = (c.keyword kOVERS).1.n := ⟨_, rfl⟩
  have he : readR q 3 c = ({ q with overs := v }, c') := by
    have : readR q 3 c = ({ q with overs := (c.keyword kOVERS).1.n.2 }, (c.keyword kOVERS).1.n.1) := rfl
    rw [this, ← hcv]
  rw [he]
  have k1 := read2 hgl hd ⟨#[79, 86, 69, 82, 83]⟩ 3 (by decide) c' v hcv (q' := { q with overs := v }) (fun _ => rfl) rfl
  have K1 := Lib.hid k1
  clear h hd k1 hgl hcv he y0 y1
  go_enter Tryz.func26, Tryz.ntmps26
  go_wp2_with (go_at_call 60; refine K1.out.mono ?_; rintro e W1 ⟨rfl, h1⟩; have H1 := Lib.hid h1; clear h1)
  go_end0
  exact ⟨rfl, H1.out.toRC⟩
set_option maxRecDepth 100000 in
set_option maxHeartbeats 2000000 in
theorem read_4 {w2 Wb : World} {g : Nat} {F : Nat → Prop} {W : World} {q : Rul} {c : Cur} (hgl : GlobN w2) (h : RC w2 Wb g F W q c) :
    Calls Tryz.prog 26 #[.pointer (some ⟨w2.heap.size, 0, none⟩), .int .i64 4, .pointer (some ⟨g, 0, none⟩)] W fun e W' => e = .returned (.tuple #[]) ∧ RC w2 Wb g F W' (readR q 4 c).1 (readR q 4 c).2 := by
  have hd := RD.one h
  obtain ⟨y0, y1⟩ := hd.cells
  obtain ⟨⟨c', v⟩, hcv⟩ : ∃ x, x = (c.keyword kBALLS).1.n := ⟨_, rfl⟩
  have he : readR q 4 c = ({ q with balls := v }, c') := by
    have : readR q 4 c = ({ q with balls := (c.keyword kBALLS).1.n.2 }, (c.keyword kBALLS).1.n.1) := rfl
    rw [this, ← hcv]
  rw [he]
  have k1 := read2 hgl hd ⟨#[66, 65, 76, 76, 83]⟩ 4 (by decide) c' v hcv (q' := { q with balls := v }) (fun _ => rfl) rfl
  have K1 := Lib.hid k1
  clear h hd k1 hgl hcv he y0 y1
  go_enter Tryz.func26, Tryz.ntmps26
  go_wp2_with (go_at_call 60; refine K1.out.mono ?_; rintro e W1 ⟨rfl, h1⟩; have H1 := Lib.hid h1; clear h1)
  go_end0
  exact ⟨rfl, H1.out.toRC⟩
set_option maxRecDepth 100000 in
set_option maxHeartbeats 2000000 in
theorem read_5 {w2 Wb : World} {g : Nat} {F : Nat → Prop} {W : World} {q : Rul} {c : Cur} (hgl : GlobN w2) (h : RC w2 Wb g F W q c) :
    Calls Tryz.prog 26 #[.pointer (some ⟨w2.heap.size, 0, none⟩), .int .i64 5, .pointer (some ⟨g, 0, none⟩)] W fun e W' => e = .returned (.tuple #[]) ∧ RC w2 Wb g F W' (readR q 5 c).1 (readR q 5 c).2 := by
  have hd := RD.one h
  obtain ⟨y0, y1⟩ := hd.cells
  obtain ⟨⟨c', v⟩, hcv⟩ : ∃ x, x = (c.keyword kQUOTA).1.n := ⟨_, rfl⟩
  have he : readR q 5 c = ({ q with quota := v }, c') := by
    have : readR q 5 c = ({ q with quota := (c.keyword kQUOTA).1.n.2 }, (c.keyword kQUOTA).1.n.1) := rfl
    rw [this, ← hcv]
  rw [he]
  have k1 := read2 hgl hd ⟨#[81, 85, 79, 84, 65]⟩ 5 (by decide) c' v hcv (q' := { q with quota := v }) (fun _ => rfl) rfl
  have K1 := Lib.hid k1
  clear h hd k1 hgl hcv he y0 y1
  go_enter Tryz.func26, Tryz.ntmps26
  go_wp2_with (go_at_call 60; refine K1.out.mono ?_; rintro e W1 ⟨rfl, h1⟩; have H1 := Lib.hid h1; clear h1)
  go_end0
  exact ⟨rfl, H1.out.toRC⟩
set_option maxRecDepth 100000 in
set_option maxHeartbeats 2000000 in
theorem read_8 {w2 Wb : World} {g : Nat} {F : Nat → Prop} {W : World} {q : Rul} {c : Cur} (hgl : GlobN w2) (h : RC w2 Wb g F W q c) :
    Calls Tryz.prog 26 #[.pointer (some ⟨w2.heap.size, 0, none⟩), .int .i64 8, .pointer (some ⟨g, 0, none⟩)] W fun e W' => e = .returned (.tuple #[]) ∧ RC w2 Wb g F W' (readR q 8 c).1 (readR q 8 c).2 := by
  have hd := RD.one h
  obtain ⟨y0, y1⟩ := hd.cells
  obtain ⟨⟨c', v⟩, hcv⟩ : ∃ x, x = (c.keyword kNEWBALL).1.n := ⟨_, rfl⟩
  have he : readR q 8 c = ({ q with newball := v }, c') := by
    have : readR q 8 c = ({ q with newball := (c.keyword kNEWBALL).1.n.2 }, (c.keyword kNEWBALL).1.n.1) := rfl
    rw [this, ← hcv]
  rw [he]
  have k1 := read2 hgl hd ⟨#[78, 69, 87, 66, 65, 76, 76]⟩ 9 (by decide) c' v hcv (q' := { q with newball := v }) (fun _ => rfl) rfl
  have K1 := Lib.hid k1
  clear h hd k1 hgl hcv he y0 y1
  go_enter Tryz.func26, Tryz.ntmps26
  go_wp2_with (go_at_call 60; refine K1.out.mono ?_; rintro e W1 ⟨rfl, h1⟩; have H1 := Lib.hid h1; clear h1)
  go_end0
  exact ⟨rfl, H1.out.toRC⟩
set_option maxRecDepth 100000 in
set_option maxHeartbeats 2000000 in
theorem read_9 {w2 Wb : World} {g : Nat} {F : Nat → Prop} {W : World} {q : Rul} {c : Cur} (hgl : GlobN w2) (h : RC w2 Wb g F W q c) :
    Calls Tryz.prog 26 #[.pointer (some ⟨w2.heap.size, 0, none⟩), .int .i64 9, .pointer (some ⟨g, 0, none⟩)] W fun e W' => e = .returned (.tuple #[]) ∧ RC w2 Wb g F W' (readR q 9 c).1 (readR q 9 c).2 := by
  have hd := RD.one h
  obtain ⟨y0, y1⟩ := hd.cells
  obtain ⟨⟨c', v⟩, hcv⟩ : ∃ x, x = (c.keyword kFOLLOWON).1.n := ⟨_, rfl⟩
  have he : readR q 9 c = ({ q with follow := v }, c') := by
    have : readR q 9 c = ({ q with follow := (c.keyword kFOLLOWON).1.n.2 }, (c.keyword kFOLLOWON).1.n.1) := rfl
    rw [this, ← hcv]
  rw [he]
  have k1 := read2 hgl hd ⟨#[70, 79, 76, 76, 79, 87, 79, 78]⟩ 10 (by decide) c' v hcv (q' := { q with follow := v }) (fun _ => rfl) rfl
  have K1 := Lib.hid k1
  clear h hd k1 hgl hcv he y0 y1
  go_enter Tryz.func26, Tryz.ntmps26
  go_wp2_with (go_at_call 60; refine K1.out.mono ?_; rintro e W1 ⟨rfl, h1⟩; have H1 := Lib.hid h1; clear h1)
  go_end0
  exact ⟨rfl, H1.out.toRC⟩
set_option maxRecDepth 100000 in
set_option maxHeartbeats 2000000 in
theorem read_10 {w2 Wb : World} {g : Nat} {F : Nat → Prop} {W : World} {q : Rul} {c : Cur} (hgl : GlobN w2) (h : RC w2 Wb g F W q c) :
    Calls Tryz.prog 26 #[.pointer (some ⟨w2.heap.size, 0, none⟩), .int .i64 10, .pointer (some ⟨g, 0, none⟩)] W fun e W' => e = .returned (.tuple #[]) ∧ RC w2 Wb g F W' (readR q 10 c).1 (readR q 10 c).2 := by
  have hd := RD.one h
  obtain ⟨y0, y1⟩ := hd.cells
  obtain ⟨⟨c', v⟩, hcv⟩ : ∃ x, x = (c.keyword kREVIEWS).1.n := ⟨_, rfl⟩
  have he : readR q 10 c = ({ q with reviews := v }, c') := by
    have : readR q 10 c = ({ q with reviews := (c.keyword kREVIEWS).1.n.2 }, (c.keyword kREVIEWS).1.n.1) := rfl
    rw [this, ← hcv]
  rw [he]
  have k1 := read2 hgl hd ⟨#[82, 69, 86, 73, 69, 87, 83]⟩ 11 (by decide) c' v hcv (q' := { q with reviews := v }) (fun _ => rfl) rfl
  have K1 := Lib.hid k1
  clear h hd k1 hgl hcv he y0 y1
  go_enter Tryz.func26, Tryz.ntmps26
  go_wp2_with (go_at_call 60; refine K1.out.mono ?_; rintro e W1 ⟨rfl, h1⟩; have H1 := Lib.hid h1; clear h1)
  go_end0
  exact ⟨rfl, H1.out.toRC⟩
set_option maxRecDepth 100000 in
set_option maxHeartbeats 2000000 in
theorem read_11 {w2 Wb : World} {g : Nat} {F : Nat → Prop} {W : World} {q : Rul} {c : Cur} (hgl : GlobN w2) (h : RC w2 Wb g F W q c) :
    Calls Tryz.prog 26 #[.pointer (some ⟨w2.heap.size, 0, none⟩), .int .i64 11, .pointer (some ⟨g, 0, none⟩)] W fun e W' => e = .returned (.tuple #[]) ∧ RC w2 Wb g F W' (readR q 11 c).1 (readR q 11 c).2 := by
  have hd := RD.one h
  obtain ⟨y0, y1⟩ := hd.cells
  obtain ⟨⟨c', v⟩, hcv⟩ : ∃ x, x = (c.keyword kOUTSIDE).1.n := ⟨_, rfl⟩
  have he : readR q 11 c = ({ q with outside := v }, c') := by
    have : readR q 11 c = ({ q with outside := (c.keyword kOUTSIDE).1.n.2 }, (c.keyword kOUTSIDE).1.n.1) := rfl
    rw [this, ← hcv]
  rw [he]
  have k1 := read2 hgl hd ⟨#[79, 85, 84, 83, 73, 68, 69]⟩ 12 (by decide) c' v hcv (q' := { q with outside := v }) (fun _ => rfl) rfl
  have K1 := Lib.hid k1
  clear h hd k1 hgl hcv he y0 y1
  go_enter Tryz.func26, Tryz.ntmps26
  go_wp2_with (go_at_call 60; refine K1.out.mono ?_; rintro e W1 ⟨rfl, h1⟩; have H1 := Lib.hid h1; clear h1)
  go_end0
  exact ⟨rfl, H1.out.toRC⟩
end Go.Proofs.YtglkejlimeakbaaGreatDoor
