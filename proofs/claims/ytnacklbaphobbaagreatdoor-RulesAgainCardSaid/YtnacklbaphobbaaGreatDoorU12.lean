/- The region of rules.Text that lays the lines of the numbers: in whatever order. -/
import Derived.Test.YtnacklbaphobbaaGreatDoorO2
import Derived.Test.YtnacklbaphobbaaGreatDoorU3
import Derived.Test.YtnacklbaphobbaaGreatDoorPP
import Derived.Test.YtnacklbaphobbaaGreatDoorN3
set_option linter.unusedSimpArgs false
set_option linter.unusedVariables false
namespace Go.Proofs.YtnacklbaphobbaaGreatDoor
open Go.RowKit

def rulInts (r : Rul) : List Int := [r.side, r.inns, r.overs, r.balls, r.quota, r.wide, r.noball, r.newball, r.follow, r.reviews, r.outside]
theorem rulInts_ok {r : Rul} (h : checkR r = 0) : ∀ x ∈ rulInts r, 0 ≤ x ∧ x ≤ 10000 := by
  obtain ⟨_, hr, _, _⟩ := checkR_ok h
  obtain ⟨⟨a1, a2⟩, ⟨b1, b2⟩, ⟨d1, d2⟩, ⟨e1, e2⟩, ⟨f1, f2⟩, ⟨g1, g2⟩, ⟨i1, i2⟩, ⟨j1, j2⟩, ⟨k1, k2⟩, ⟨l1, l2⟩, ⟨m1, m2⟩⟩ := (inRangeS_iff r).1 hr
  intro x hx
  unfold rulInts at hx
  simp only [List.mem_cons, List.not_mem_nil, or_false] at hx
  rcases hx with rfl | rfl | rfl | rfl | rfl | rfl | rfl | rfl | rfl | rfl | rfl <;> omega
def headVals (r : Rul) : List (List (List UInt8)) := [[r.name], [decW r.side], [decW r.inns], [decW r.overs], [decW r.balls], [decW r.quota], [decW r.wide, decW r.noball], [freeW r.free], [decW r.newball], [decW r.follow], [decW r.reviews], [decW r.outside]]
/-- What such a region needs of its world. -/
structure TxR (w0 : World) (g : Nat) (r : Rul) (pv : Value) (w : World) : Prop where
  lies : RulAt w g r pv
  bel : Below w0.heap.size w0 w
theorem TxR.size {w0 w : World} {g : Nat} {r : Rul} {pv : Value} (h : TxR w0 g r pv w) : w0.heap.size ≤ w.heap.size := h.bel.size
theorem TxR.below {w0 w w' : World} {g : Nat} {r : Rul} {pv : Value} (h : TxR w0 g r pv w) (hb : Below w.heap.size w w') : TxR w0 g r pv w' := ⟨h.lies.below hb, h.bel.trans (hb.mono h.bel.size)⟩
structure TxG (w0 : World) (g : Nat) (r : Rul) (pv : Value) (w : World) : Prop extends TxR w0 g r pv w where
  glob : GlobN w
theorem TxG.below {w0 w w' : World} {g : Nat} {r : Rul} {pv : Value} (h : TxG w0 g r pv w) (hb : Below w.heap.size w w') : TxG w0 g r pv w' := ⟨h.toTxR.below hb, h.glob.below hb⟩
theorem TxG.size {w0 w : World} {g : Nat} {r : Rul} {pv : Value} (h : TxG w0 g r pv w) : w0.heap.size ≤ w.heap.size := h.bel.size
theorem fld_0 (g : Nat) (w : World) : (Instr.fieldAt 24 (.pointer (some ⟨g, 0, none⟩)) 0).run Tryz.prog w = .ok (.pointer (some ⟨g, 0, none⟩)) w := by kernel_rfl
theorem fld_1 (g : Nat) (w : World) : (Instr.fieldAt 24 (.pointer (some ⟨g, 0, none⟩)) 1).run Tryz.prog w = .ok (.pointer (some ⟨g, 1, none⟩)) w := by kernel_rfl
theorem fld_2 (g : Nat) (w : World) : (Instr.fieldAt 24 (.pointer (some ⟨g, 0, none⟩)) 2).run Tryz.prog w = .ok (.pointer (some ⟨g, 2, none⟩)) w := by kernel_rfl
theorem fld_3 (g : Nat) (w : World) : (Instr.fieldAt 24 (.pointer (some ⟨g, 0, none⟩)) 3).run Tryz.prog w = .ok (.pointer (some ⟨g, 3, none⟩)) w := by kernel_rfl
theorem fld_4 (g : Nat) (w : World) : (Instr.fieldAt 24 (.pointer (some ⟨g, 0, none⟩)) 4).run Tryz.prog w = .ok (.pointer (some ⟨g, 4, none⟩)) w := by kernel_rfl
theorem fld_5 (g : Nat) (w : World) : (Instr.fieldAt 24 (.pointer (some ⟨g, 0, none⟩)) 5).run Tryz.prog w = .ok (.pointer (some ⟨g, 5, none⟩)) w := by kernel_rfl
theorem fld_6 (g : Nat) (w : World) : (Instr.fieldAt 24 (.pointer (some ⟨g, 0, none⟩)) 6).run Tryz.prog w = .ok (.pointer (some ⟨g, 6, none⟩)) w := by kernel_rfl
theorem fld_7 (g : Nat) (w : World) : (Instr.fieldAt 24 (.pointer (some ⟨g, 0, none⟩)) 7).run Tryz.prog w = .ok (.pointer (some ⟨g, 7, none⟩)) w := by kernel_rfl
theorem fld_8 (g : Nat) (w : World) : (Instr.fieldAt 24 (.pointer (some ⟨g, 0, none⟩)) 8).run Tryz.prog w = .ok (.pointer (some ⟨g, 8, none⟩)) w := by kernel_rfl
theorem fld_9 (g : Nat) (w : World) : (Instr.fieldAt 24 (.pointer (some ⟨g, 0, none⟩)) 9).run Tryz.prog w = .ok (.pointer (some ⟨g, 9, none⟩)) w := by kernel_rfl
theorem fld_10 (g : Nat) (w : World) : (Instr.fieldAt 24 (.pointer (some ⟨g, 0, none⟩)) 10).run Tryz.prog w = .ok (.pointer (some ⟨g, 10, none⟩)) w := by kernel_rfl
theorem fld_11 (g : Nat) (w : World) : (Instr.fieldAt 24 (.pointer (some ⟨g, 0, none⟩)) 11).run Tryz.prog w = .ok (.pointer (some ⟨g, 11, none⟩)) w := by kernel_rfl
theorem fld_12 (g : Nat) (w : World) : (Instr.fieldAt 24 (.pointer (some ⟨g, 0, none⟩)) 12).run Tryz.prog w = .ok (.pointer (some ⟨g, 12, none⟩)) w := by kernel_rfl
theorem bs_2 (w : World) (u0 u1 : ByteArray) : (Instr.buildSlice 59 2 #[(0, .string u0), (1, .string u1)]).run Tryz.prog w = .ok (.slice (some ⟨w.heap.size, 0, none⟩) 2 2) (w.alloc (.cells #[.string u0, .string u1] 9)) := by kernel_rfl
theorem k_strs2 {B : Nat} {w0 w : World} {K : List (Nat × Kd)} {a : Act} {o : Oper} {d : Nat} {x0 x1 : Operand} {p0 p1 : List UInt8} (ho : o.op = .buildSlice 59 2 #[(0, x0), (1, x1)]) (hd : o.dst = some d) (hk : K.lookup d = some (.strs [p0, p1])) (h0 : a.eval x0 = .string (S p0)) (h1 : a.eval x1 = .string (S p1)) (hB : B ≤ w.heap.size) : Meets Tryz.prog (tabK B w0 K) o a w := by
  refine meets_build (e := 9) ho #[.string (S p0), .string (S p1)] ?_ (tab_o hd hk (strs_lit w B hB [p0, p1] 9 (by simp [maxLen])))
  simp only [List.map_toArray, List.map_cons, List.map_nil, h0, h1]
  exact bs_2 w (S p0) (S p1)
theorem bs_3 (w : World) (u0 u1 u2 : ByteArray) : (Instr.buildSlice 59 3 #[(0, .string u0), (1, .string u1), (2, .string u2)]).run Tryz.prog w = .ok (.slice (some ⟨w.heap.size, 0, none⟩) 3 3) (w.alloc (.cells #[.string u0, .string u1, .string u2] 9)) := by kernel_rfl
theorem k_strs3 {B : Nat} {w0 w : World} {K : List (Nat × Kd)} {a : Act} {o : Oper} {d : Nat} {x0 x1 x2 : Operand} {p0 p1 p2 : List UInt8} (ho : o.op = .buildSlice 59 3 #[(0, x0), (1, x1), (2, x2)]) (hd : o.dst = some d) (hk : K.lookup d = some (.strs [p0, p1, p2])) (h0 : a.eval x0 = .string (S p0)) (h1 : a.eval x1 = .string (S p1)) (h2 : a.eval x2 = .string (S p2)) (hB : B ≤ w.heap.size) : Meets Tryz.prog (tabK B w0 K) o a w := by
  refine meets_build (e := 9) ho #[.string (S p0), .string (S p1), .string (S p2)] ?_ (tab_o hd hk (strs_lit w B hB [p0, p1, p2] 9 (by simp [maxLen])))
  simp only [List.map_toArray, List.map_cons, List.map_nil, h0, h1, h2]
  exact bs_3 w (S p0) (S p1) (S p2)
theorem text1_contract (n : Int) (w : World) (hg : GlobN w) (h0 : 0 ≤ n) (h1 : n ≤ 10000) : Calls Tryz.prog 38 #[.int .i64 n] w fun e w' => e = .returned (.string (S (decW n))) ∧ Below w.heap.size w w' := by
  have K := Lib.hid (text_Decimal n w hg (by omega) (by omega))
  clear hg
  go_enter Tryz.func38, Tryz.ntmps38
  go_wp2_with (go_at_call 39; refine K.out.mono ?_; rintro e w2 ⟨rfl, hb⟩)
  go_ret
  exact ⟨rfl, hb⟩
theorem k_dec {B : Nat} {w0 w : World} {K : List (Nat × Kd)} {a : Act} {o : Oper} {d : Nat} {f x : Operand} {n : Int} {at_ : Array TypeId} (ho : o.op = .call { callee := .value f, args := #[x], argTypes := at_ }) (hd : o.dst = some d) (hk : K.lookup d = some (.val (.string (S (decW n))))) (hf : a.eval f = .func (.func 38) #[] #[]) (hx : a.eval x = .int .i64 n) (hg : GlobN w) (hn : 0 ≤ n ∧ n ≤ 10000) : Meets Tryz.prog (tabK B w0 K) o a w := by
  refine meets_call (f := 38) (args := #[.int .i64 n]) ho rfl hf (by simp [hx]) Tryz.func38 (by kernel_rfl) (by kernel_rfl) fun d' h' => ?_
  refine (text1_contract n w hg hn.1 hn.2).mono ?_
  rintro e w' ⟨rfl, h2⟩
  exact ⟨_, rfl, h2, tab_o (w := w') hd hk rfl d' h'⟩
theorem k_line {B : Nat} {w0 w : World} {K : List (Nat × Kd)} {a : Act} {o : Oper} {d : Nat} {x : Operand} {v : Value} {l : List (List UInt8)} {at_ : Array TypeId} (ho : o.op = .call { callee := .value (.func 40), args := #[x], argTypes := at_ }) (hd : o.dst = some d) (hk : K.lookup d = some (.line l)) (hx : a.eval x = v) (hv : Sl 1 elStr w (Fr B w) v l) (hl : l.length ≤ 1000) (hB : B ≤ w.heap.size) : Meets Tryz.prog (tabK B w0 K) o a w := by
  refine meets_call (f := 40) (args := #[v]) ho rfl rfl (by simp [hx]) Tryz.func40 (by kernel_rfl) (by kernel_rfl) fun d' h' => ?_
  refine (rul_line l v _ w hv (fun b h => h.2) hl).mono ?_
  rintro e w' ⟨A, n, c, rfl, h1, h2⟩
  exact ⟨_, rfl, h2, tab_o (w := w') hd hk ⟨A, n, c, rfl, h1.keep elFld_good (Same.refl _ _) fun b h => ⟨Nat.le_trans hB h.1, h.2⟩⟩ d' h'⟩
theorem bs_rows (w : World) (A0 A1 A2 A3 A4 A5 A6 A7 A8 A9 A10 A11 : Option Addr) (n0 c0 n1 c1 n2 c2 n3 c3 n4 c4 n5 c5 n6 c6 n7 c7 n8 c8 n9 c9 n10 c10 n11 c11 : Nat) : (Instr.buildSlice 57 12 #[(0, .agg #[.int .i64 0, .slice A0 n0 c0]), (1, .agg #[.int .i64 0, .slice A1 n1 c1]), (2, .agg #[.int .i64 0, .slice A2 n2 c2]), (3, .agg #[.int .i64 0, .slice A3 n3 c3]), (4, .agg #[.int .i64 0, .slice A4 n4 c4]), (5, .agg #[.int .i64 0, .slice A5 n5 c5]), (6, .agg #[.int .i64 0, .slice A6 n6 c6]), (7, .agg #[.int .i64 0, .slice A7 n7 c7]), (8, .agg #[.int .i64 0, .slice A8 n8 c8]), (9, .agg #[.int .i64 0, .slice A9 n9 c9]), (10, .agg #[.int .i64 0, .slice A10 n10 c10]), (11, .agg #[.int .i64 0, .slice A11 n11 c11])]).run Tryz.prog w = .ok (.slice (some ⟨w.heap.size, 0, none⟩) 12 12) (w.alloc (.cells #[.int .i64 0, .slice A0 n0 c0, .int .i64 0, .slice A1 n1 c1, .int .i64 0, .slice A2 n2 c2, .int .i64 0, .slice A3 n3 c3, .int .i64 0, .slice A4 n4 c4, .int .i64 0, .slice A5 n5 c5, .int .i64 0, .slice A6 n6 c6, .int .i64 0, .slice A7 n7 c7, .int .i64 0, .slice A8 n8 c8, .int .i64 0, .slice A9 n9 c9, .int .i64 0, .slice A10 n10 c10, .int .i64 0, .slice A11 n11 c11] 55)) := by kernel_rfl
theorem k_rows {w0 w : World} {K : List (Nat × Kd)} {a : Act} {o : Oper} {d : Nat} {r : Rul} {x0 x1 x2 x3 x4 x5 x6 x7 x8 x9 x10 x11 : Operand} {A0 A1 A2 A3 A4 A5 A6 A7 A8 A9 A10 A11 : Option Addr} {n0 c0 n1 c1 n2 c2 n3 c3 n4 c4 n5 c5 n6 c6 n7 c7 n8 c8 n9 c9 n10 c10 n11 c11 : Nat} (ho : o.op = .buildSlice 57 12 #[(0, x0), (1, x1), (2, x2), (3, x3), (4, x4), (5, x5), (6, x6), (7, x7), (8, x8), (9, x9), (10, x10), (11, x11)]) (hd : o.dst = some d) (hk : K.lookup d = some (.rows (headLines r))) (hB : w0.heap.size ≤ w.heap.size) (hb : Below w0.heap.size w0 w)
(h0 : a.eval x0 = .agg #[.int .i64 0, .slice A0 n0 c0]) (s0 : Sl 3 elFld w (Fr w0.heap.size w) (.slice A0 n0 c0) ([kRULES, r.name].map wordF)) (h1 : a.eval x1 = .agg #[.int .i64 0, .slice A1 n1 c1]) (s1 : Sl 3 elFld w (Fr w0.heap.size w) (.slice A1 n1 c1) ([kSIDE, decW r.side].map wordF)) (h2 : a.eval x2 = .agg #[.int .i64 0, .slice A2 n2 c2]) (s2 : Sl 3 elFld w (Fr w0.heap.size w) (.slice A2 n2 c2) ([kINNINGS, decW r.inns].map wordF)) (h3 : a.eval x3 = .agg #[.int .i64 0, .slice A3 n3 c3]) (s3 : Sl 3 elFld w (Fr w0.heap.size w) (.slice A3 n3 c3) ([kOVERS, decW r.overs].map wordF)) (h4 : a.eval x4 = .agg #[.int .i64 0, .slice A4 n4 c4]) (s4 : Sl 3 elFld w (Fr w0.heap.size w) (.slice A4 n4 c4) ([kBALLS, decW r.balls].map wordF)) (h5 : a.eval x5 = .agg #[.int .i64 0, .slice A5 n5 c5]) (s5 : Sl 3 elFld w (Fr w0.heap.size w) (.slice A5 n5 c5) ([kQUOTA, decW r.quota].map wordF)) (h6 : a.eval x6 = .agg #[.int .i64 0, .slice A6 n6 c6]) (s6 : Sl 3 elFld w (Fr w0.heap.size w) (.slice A6 n6 c6) ([kRUNS, decW r.wide, decW r.noball].map wordF)) (h7 : a.eval x7 = .agg #[.int .i64 0, .slice A7 n7 c7]) (s7 : Sl 3 elFld w (Fr w0.heap.size w) (.slice A7 n7 c7) ([kFREEHIT, freeW r.free].map wordF)) (h8 : a.eval x8 = .agg #[.int .i64 0, .slice A8 n8 c8]) (s8 : Sl 3 elFld w (Fr w0.heap.size w) (.slice A8 n8 c8) ([kNEWBALL, decW r.newball].map wordF)) (h9 : a.eval x9 = .agg #[.int .i64 0, .slice A9 n9 c9]) (s9 : Sl 3 elFld w (Fr w0.heap.size w) (.slice A9 n9 c9) ([kFOLLOWON, decW r.follow].map wordF)) (h10 : a.eval x10 = .agg #[.int .i64 0, .slice A10 n10 c10]) (s10 : Sl 3 elFld w (Fr w0.heap.size w) (.slice A10 n10 c10) ([kREVIEWS, decW r.reviews].map wordF)) (h11 : a.eval x11 = .agg #[.int .i64 0, .slice A11 n11 c11]) (s11 : Sl 3 elFld w (Fr w0.heap.size w) (.slice A11 n11 c11) ([kOUTSIDE, decW r.outside].map wordF)) : Meets Tryz.prog (tabK w0.heap.size w0 K) o a w := by
  refine meets_build (e := 55) ho #[.int .i64 0, .slice A0 n0 c0, .int .i64 0, .slice A1 n1 c1, .int .i64 0, .slice A2 n2 c2, .int .i64 0, .slice A3 n3 c3, .int .i64 0, .slice A4 n4 c4, .int .i64 0, .slice A5 n5 c5, .int .i64 0, .slice A6 n6 c6, .int .i64 0, .slice A7 n7 c7, .int .i64 0, .slice A8 n8 c8, .int .i64 0, .slice A9 n9 c9, .int .i64 0, .slice A10 n10 c10, .int .i64 0, .slice A11 n11 c11] ?_ (tab_o hd hk (rows_lit w w0 w0.heap.size hB hb (headLines r) [[.int .i64 0, .slice A0 n0 c0], [.int .i64 0, .slice A1 n1 c1], [.int .i64 0, .slice A2 n2 c2], [.int .i64 0, .slice A3 n3 c3], [.int .i64 0, .slice A4 n4 c4], [.int .i64 0, .slice A5 n5 c5], [.int .i64 0, .slice A6 n6 c6], [.int .i64 0, .slice A7 n7 c7], [.int .i64 0, .slice A8 n8 c8], [.int .i64 0, .slice A9 n9 c9], [.int .i64 0, .slice A10 n10 c10], [.int .i64 0, .slice A11 n11 c11]] rfl (by simp) (by unfold headLines; simp [maxLen]) fun i x cs h1 h2 => ?_))
  · simp only [List.map_toArray, List.map_cons, List.map_nil, h0, h1, h2, h3, h4, h5, h6, h7, h8, h9, h10, h11]
    exact bs_rows w A0 A1 A2 A3 A4 A5 A6 A7 A8 A9 A10 A11 n0 c0 n1 c1 n2 c2 n3 c3 n4 c4 n5 c5 n6 c6 n7 c7 n8 c8 n9 c9 n10 c10 n11 c11
  · have hlt : i < 12 := (List.getElem?_eq_some_iff.1 h2).1
    unfold headLines at h1
    match i, hlt with
    | 0, _ => simp at h1 h2; subst h1; subst h2; exact ⟨_, rfl, s0⟩
    | 1, _ => simp at h1 h2; subst h1; subst h2; exact ⟨_, rfl, s1⟩
    | 2, _ => simp at h1 h2; subst h1; subst h2; exact ⟨_, rfl, s2⟩
    | 3, _ => simp at h1 h2; subst h1; subst h2; exact ⟨_, rfl, s3⟩
    | 4, _ => simp at h1 h2; subst h1; subst h2; exact ⟨_, rfl, s4⟩
    | 5, _ => simp at h1 h2; subst h1; subst h2; exact ⟨_, rfl, s5⟩
    | 6, _ => simp at h1 h2; subst h1; subst h2; exact ⟨_, rfl, s6⟩
    | 7, _ => simp at h1 h2; subst h1; subst h2; exact ⟨_, rfl, s7⟩
    | 8, _ => simp at h1 h2; subst h1; subst h2; exact ⟨_, rfl, s8⟩
    | 9, _ => simp at h1 h2; subst h1; subst h2; exact ⟨_, rfl, s9⟩
    | 10, _ => simp at h1 h2; subst h1; subst h2; exact ⟨_, rfl, s10⟩
    | 11, _ => simp at h1 h2; subst h1; subst h2; exact ⟨_, rfl, s11⟩
noncomputable def txOps : Array Oper := (Tryz.f21.body.bind (findR 8)).getD #[]
def txKinds (r : Rul) (g : Nat) : List (Nat × Kd) := [(1, .val (.pointer (some ⟨g, 0, none⟩))), (5, .val (.func (.func 38) #[] #[])), (6, .val (.string (S (freeW r.free)))), (17, .val (.pointer (some ⟨g, 0, none⟩))), (18, .val (.string (S r.name))), (19, .strs [kRULES, r.name]), (20, .line [kRULES, r.name]), (21, .val (.func (.func 38) #[] #[])), (22, .val (.pointer (some ⟨g, 1, none⟩))), (23, .val (.int .i64 r.side)), (24, .val (.string (S (decW r.side)))), (25, .strs [kSIDE, (decW r.side)]), (26, .line [kSIDE, (decW r.side)]), (27, .val (.func (.func 38) #[] #[])), (28, .val (.pointer (some ⟨g, 2, none⟩))), (29, .val (.int .i64 r.inns)), (30, .val (.string (S (decW r.inns)))), (31, .strs [kINNINGS, (decW r.inns)]), (32, .line [kINNINGS, (decW r.inns)]), (33, .val (.func (.func 38) #[] #[])), (34, .val (.pointer (some ⟨g, 3, none⟩))), (35, .val (.int .i64 r.overs)), (36, .val (.string (S (decW r.overs)))), (37, .strs [kOVERS, (decW r.overs)]), (38, .line [kOVERS, (decW r.overs)]), (39, .val (.func (.func 38) #[] #[])), (40, .val (.pointer (some ⟨g, 4, none⟩))), (41, .val (.int .i64 r.balls)), (42, .val (.string (S (decW r.balls)))), (43, .strs [kBALLS, (decW r.balls)]), (44, .line [kBALLS, (decW r.balls)]), (45, .val (.func (.func 38) #[] #[])), (46, .val (.pointer (some ⟨g, 5, none⟩))), (47, .val (.int .i64 r.quota)), (48, .val (.string (S (decW r.quota)))), (49, .strs [kQUOTA, (decW r.quota)]), (50, .line [kQUOTA, (decW r.quota)]), (51, .val (.func (.func 38) #[] #[])), (52, .val (.pointer (some ⟨g, 6, none⟩))), (53, .val (.int .i64 r.wide)), (54, .val (.string (S (decW r.wide)))), (55, .val (.func (.func 38) #[] #[])), (56, .val (.pointer (some ⟨g, 7, none⟩))), (57, .val (.int .i64 r.noball)), (58, .val (.string (S (decW r.noball)))), (59, .strs [kRUNS, (decW r.wide), (decW r.noball)]), (60, .line [kRUNS, (decW r.wide), (decW r.noball)]), (61, .val (.string (S (freeW r.free)))), (62, .strs [kFREEHIT, (freeW r.free)]), (63, .line [kFREEHIT, (freeW r.free)]), (64, .val (.func (.func 38) #[] #[])), (65, .val (.pointer (some ⟨g, 9, none⟩))), (66, .val (.int .i64 r.newball)), (67, .val (.string (S (decW r.newball)))), (68, .strs [kNEWBALL, (decW r.newball)]), (69, .line [kNEWBALL, (decW r.newball)]), (70, .val (.func (.func 38) #[] #[])), (71, .val (.pointer (some ⟨g, 10, none⟩))), (72, .val (.int .i64 r.follow)), (73, .val (.string (S (decW r.follow)))), (74, .strs [kFOLLOWON, (decW r.follow)]), (75, .line [kFOLLOWON, (decW r.follow)]), (76, .val (.func (.func 38) #[] #[])), (77, .val (.pointer (some ⟨g, 11, none⟩))), (78, .val (.int .i64 r.reviews)), (79, .val (.string (S (decW r.reviews)))), (80, .strs [kREVIEWS, (decW r.reviews)]), (81, .line [kREVIEWS, (decW r.reviews)]), (82, .val (.func (.func 38) #[] #[])), (83, .val (.pointer (some ⟨g, 12, none⟩))), (84, .val (.int .i64 r.outside)), (85, .val (.string (S (decW r.outside)))), (86, .strs [kOUTSIDE, (decW r.outside)]), (87, .line [kOUTSIDE, (decW r.outside)]), (88, .rows (headLines r)), (7, .rows (headLines r))]
def txNeeds : List (List Nat) := [[1], [17], [18], [19], [5], [1], [22], [21, 23], [24], [25], [5], [1], [28], [27, 29], [30], [31], [5], [1], [34], [33, 35], [36], [37], [5], [1], [40], [39, 41], [42], [43], [5], [1], [46], [45, 47], [48], [49], [5], [1], [52], [51, 53], [5], [1], [56], [55, 57], [54, 58], [59], [6], [61], [62], [5], [1], [65], [64, 66], [67], [68], [5], [1], [71], [70, 72], [73], [74], [5], [1], [77], [76, 78], [79], [80], [5], [1], [83], [82, 84], [85], [86], [20, 26, 32, 38, 44, 50, 60, 63, 69, 75, 81, 87], [88]]
section
variable {w0 : World} {r : Rul} {pv : Value} {g : Nat}
theorem tx_0 (hR : ∀ x ∈ rulInts r, 0 ≤ x ∧ x ≤ 10000) {o : Oper} (ho : txOps[0]? = some o) (a : Act) (w : World) (hG : TxG w0 g r pv w) (hn : ∀ x ∈ txNeeds.getD 0 [], Holds (tabK w0.heap.size w0 (txKinds r g)) a w x) : Meets Tryz.prog (tabK w0.heap.size w0 (txKinds r g)) o a w := by
  have e := op_of (show (txOps[0]?).map (fun o => (o.op, o.dst)) = some (.fieldAddr 24 (.tmp 1) 0, some 17) by kernel_rfl) ho
  exact meets_field e.1 (holds_val (hn 1 (of_decide_eq_true (by kernel_rfl))) rfl).2 (fld_0 g w) (tab_o e.2 rfl rfl)
theorem tx_1 (hR : ∀ x ∈ rulInts r, 0 ≤ x ∧ x ≤ 10000) {o : Oper} (ho : txOps[1]? = some o) (a : Act) (w : World) (hG : TxG w0 g r pv w) (hn : ∀ x ∈ txNeeds.getD 1 [], Holds (tabK w0.heap.size w0 (txKinds r g)) a w x) : Meets Tryz.prog (tabK w0.heap.size w0 (txKinds r g)) o a w := by
  have e := op_of (show (txOps[1]?).map (fun o => (o.op, o.dst)) = some (.load 9 (.tmp 17), some 18) by kernel_rfl) ho
  exact meets_load e.1 (holds_val (hn 17 (of_decide_eq_true (by kernel_rfl))) rfl).2 (loadAt_cell (by kernel_rfl) ((hG.lies.blk.cell 0).trans rfl)) (tab_o e.2 rfl rfl)
theorem tx_2 (hR : ∀ x ∈ rulInts r, 0 ≤ x ∧ x ≤ 10000) {o : Oper} (ho : txOps[2]? = some o) (a : Act) (w : World) (hG : TxG w0 g r pv w) (hn : ∀ x ∈ txNeeds.getD 2 [], Holds (tabK w0.heap.size w0 (txKinds r g)) a w x) : Meets Tryz.prog (tabK w0.heap.size w0 (txKinds r g)) o a w := by
  have e := op_of (show (txOps[2]?).map (fun o => (o.op, o.dst)) = some (.buildSlice 59 2 #[(0, .const (.string ⟨#[82, 85, 76, 69, 83]⟩)), (1, .tmp 18)], some 19) by kernel_rfl) ho
  exact k_strs2 e.1 e.2 rfl rfl (holds_val (hn 18 (of_decide_eq_true (by kernel_rfl))) rfl).2 hG.size
theorem tx_3 (hR : ∀ x ∈ rulInts r, 0 ≤ x ∧ x ≤ 10000) {o : Oper} (ho : txOps[3]? = some o) (a : Act) (w : World) (hG : TxG w0 g r pv w) (hn : ∀ x ∈ txNeeds.getD 3 [], Holds (tabK w0.heap.size w0 (txKinds r g)) a w x) : Meets Tryz.prog (tabK w0.heap.size w0 (txKinds r g)) o a w := by
  have e := op_of (show (txOps[3]?).map (fun o => (o.op, o.dst)) = some (.call { callee := .value (.func 40), args := #[.tmp 19], argTypes := #[59] }, some 20) by kernel_rfl) ho
  obtain ⟨v, h1, h2⟩ := (holds_strs (hn 19 (of_decide_eq_true (by kernel_rfl))) rfl)
  exact k_line e.1 e.2 rfl h1 h2 (by simp) hG.size
theorem tx_4 (hR : ∀ x ∈ rulInts r, 0 ≤ x ∧ x ≤ 10000) {o : Oper} (ho : txOps[4]? = some o) (a : Act) (w : World) (hG : TxG w0 g r pv w) (hn : ∀ x ∈ txNeeds.getD 4 [], Holds (tabK w0.heap.size w0 (txKinds r g)) a w x) : Meets Tryz.prog (tabK w0.heap.size w0 (txKinds r g)) o a w := by
  have e := op_of (show (txOps[4]?).map (fun o => (o.op, o.dst)) = some (.move (.tmp 5), some 21) by kernel_rfl) ho
  exact meets_move (.inl e.1) (tab_o e.2 rfl (by rw [(holds_val (hn 5 (of_decide_eq_true (by kernel_rfl))) rfl).2]; rfl))
theorem tx_5 (hR : ∀ x ∈ rulInts r, 0 ≤ x ∧ x ≤ 10000) {o : Oper} (ho : txOps[5]? = some o) (a : Act) (w : World) (hG : TxG w0 g r pv w) (hn : ∀ x ∈ txNeeds.getD 5 [], Holds (tabK w0.heap.size w0 (txKinds r g)) a w x) : Meets Tryz.prog (tabK w0.heap.size w0 (txKinds r g)) o a w := by
  have e := op_of (show (txOps[5]?).map (fun o => (o.op, o.dst)) = some (.fieldAddr 24 (.tmp 1) 1, some 22) by kernel_rfl) ho
  exact meets_field e.1 (holds_val (hn 1 (of_decide_eq_true (by kernel_rfl))) rfl).2 (fld_1 g w) (tab_o e.2 rfl rfl)
theorem tx_6 (hR : ∀ x ∈ rulInts r, 0 ≤ x ∧ x ≤ 10000) {o : Oper} (ho : txOps[6]? = some o) (a : Act) (w : World) (hG : TxG w0 g r pv w) (hn : ∀ x ∈ txNeeds.getD 6 [], Holds (tabK w0.heap.size w0 (txKinds r g)) a w x) : Meets Tryz.prog (tabK w0.heap.size w0 (txKinds r g)) o a w := by
  have e := op_of (show (txOps[6]?).map (fun o => (o.op, o.dst)) = some (.load 3 (.tmp 22), some 23) by kernel_rfl) ho
  exact meets_load e.1 (holds_val (hn 22 (of_decide_eq_true (by kernel_rfl))) rfl).2 (loadAt_cell (by kernel_rfl) ((hG.lies.blk.cell 1).trans rfl)) (tab_o e.2 rfl rfl)
theorem tx_7 (hR : ∀ x ∈ rulInts r, 0 ≤ x ∧ x ≤ 10000) {o : Oper} (ho : txOps[7]? = some o) (a : Act) (w : World) (hG : TxG w0 g r pv w) (hn : ∀ x ∈ txNeeds.getD 7 [], Holds (tabK w0.heap.size w0 (txKinds r g)) a w x) : Meets Tryz.prog (tabK w0.heap.size w0 (txKinds r g)) o a w := by
  have e := op_of (show (txOps[7]?).map (fun o => (o.op, o.dst)) = some (.call { callee := .value (.tmp 21), args := #[.tmp 23], argTypes := #[3] }, some 24) by kernel_rfl) ho
  exact k_dec e.1 e.2 rfl (holds_val (hn 21 (of_decide_eq_true (by kernel_rfl))) rfl).2 (holds_val (hn 23 (of_decide_eq_true (by kernel_rfl))) rfl).2 hG.glob (hR _ (by simp [rulInts]))
theorem tx_8 (hR : ∀ x ∈ rulInts r, 0 ≤ x ∧ x ≤ 10000) {o : Oper} (ho : txOps[8]? = some o) (a : Act) (w : World) (hG : TxG w0 g r pv w) (hn : ∀ x ∈ txNeeds.getD 8 [], Holds (tabK w0.heap.size w0 (txKinds r g)) a w x) : Meets Tryz.prog (tabK w0.heap.size w0 (txKinds r g)) o a w := by
  have e := op_of (show (txOps[8]?).map (fun o => (o.op, o.dst)) = some (.buildSlice 59 2 #[(0, .const (.string ⟨#[83, 73, 68, 69]⟩)), (1, .tmp 24)], some 25) by kernel_rfl) ho
  exact k_strs2 e.1 e.2 rfl rfl (holds_val (hn 24 (of_decide_eq_true (by kernel_rfl))) rfl).2 hG.size
theorem tx_9 (hR : ∀ x ∈ rulInts r, 0 ≤ x ∧ x ≤ 10000) {o : Oper} (ho : txOps[9]? = some o) (a : Act) (w : World) (hG : TxG w0 g r pv w) (hn : ∀ x ∈ txNeeds.getD 9 [], Holds (tabK w0.heap.size w0 (txKinds r g)) a w x) : Meets Tryz.prog (tabK w0.heap.size w0 (txKinds r g)) o a w := by
  have e := op_of (show (txOps[9]?).map (fun o => (o.op, o.dst)) = some (.call { callee := .value (.func 40), args := #[.tmp 25], argTypes := #[59] }, some 26) by kernel_rfl) ho
  obtain ⟨v, h1, h2⟩ := (holds_strs (hn 25 (of_decide_eq_true (by kernel_rfl))) rfl)
  exact k_line e.1 e.2 rfl h1 h2 (by simp) hG.size
theorem tx_10 (hR : ∀ x ∈ rulInts r, 0 ≤ x ∧ x ≤ 10000) {o : Oper} (ho : txOps[10]? = some o) (a : Act) (w : World) (hG : TxG w0 g r pv w) (hn : ∀ x ∈ txNeeds.getD 10 [], Holds (tabK w0.heap.size w0 (txKinds r g)) a w x) : Meets Tryz.prog (tabK w0.heap.size w0 (txKinds r g)) o a w := by
  have e := op_of (show (txOps[10]?).map (fun o => (o.op, o.dst)) = some (.move (.tmp 5), some 27) by kernel_rfl) ho
  exact meets_move (.inl e.1) (tab_o e.2 rfl (by rw [(holds_val (hn 5 (of_decide_eq_true (by kernel_rfl))) rfl).2]; rfl))
theorem tx_11 (hR : ∀ x ∈ rulInts r, 0 ≤ x ∧ x ≤ 10000) {o : Oper} (ho : txOps[11]? = some o) (a : Act) (w : World) (hG : TxG w0 g r pv w) (hn : ∀ x ∈ txNeeds.getD 11 [], Holds (tabK w0.heap.size w0 (txKinds r g)) a w x) : Meets Tryz.prog (tabK w0.heap.size w0 (txKinds r g)) o a w := by
  have e := op_of (show (txOps[11]?).map (fun o => (o.op, o.dst)) = some (.fieldAddr 24 (.tmp 1) 2, some 28) by kernel_rfl) ho
  exact meets_field e.1 (holds_val (hn 1 (of_decide_eq_true (by kernel_rfl))) rfl).2 (fld_2 g w) (tab_o e.2 rfl rfl)
theorem tx_12 (hR : ∀ x ∈ rulInts r, 0 ≤ x ∧ x ≤ 10000) {o : Oper} (ho : txOps[12]? = some o) (a : Act) (w : World) (hG : TxG w0 g r pv w) (hn : ∀ x ∈ txNeeds.getD 12 [], Holds (tabK w0.heap.size w0 (txKinds r g)) a w x) : Meets Tryz.prog (tabK w0.heap.size w0 (txKinds r g)) o a w := by
  have e := op_of (show (txOps[12]?).map (fun o => (o.op, o.dst)) = some (.load 3 (.tmp 28), some 29) by kernel_rfl) ho
  exact meets_load e.1 (holds_val (hn 28 (of_decide_eq_true (by kernel_rfl))) rfl).2 (loadAt_cell (by kernel_rfl) ((hG.lies.blk.cell 2).trans rfl)) (tab_o e.2 rfl rfl)
theorem tx_13 (hR : ∀ x ∈ rulInts r, 0 ≤ x ∧ x ≤ 10000) {o : Oper} (ho : txOps[13]? = some o) (a : Act) (w : World) (hG : TxG w0 g r pv w) (hn : ∀ x ∈ txNeeds.getD 13 [], Holds (tabK w0.heap.size w0 (txKinds r g)) a w x) : Meets Tryz.prog (tabK w0.heap.size w0 (txKinds r g)) o a w := by
  have e := op_of (show (txOps[13]?).map (fun o => (o.op, o.dst)) = some (.call { callee := .value (.tmp 27), args := #[.tmp 29], argTypes := #[3] }, some 30) by kernel_rfl) ho
  exact k_dec e.1 e.2 rfl (holds_val (hn 27 (of_decide_eq_true (by kernel_rfl))) rfl).2 (holds_val (hn 29 (of_decide_eq_true (by kernel_rfl))) rfl).2 hG.glob (hR _ (by simp [rulInts]))
theorem tx_14 (hR : ∀ x ∈ rulInts r, 0 ≤ x ∧ x ≤ 10000) {o : Oper} (ho : txOps[14]? = some o) (a : Act) (w : World) (hG : TxG w0 g r pv w) (hn : ∀ x ∈ txNeeds.getD 14 [], Holds (tabK w0.heap.size w0 (txKinds r g)) a w x) : Meets Tryz.prog (tabK w0.heap.size w0 (txKinds r g)) o a w := by
  have e := op_of (show (txOps[14]?).map (fun o => (o.op, o.dst)) = some (.buildSlice 59 2 #[(0, .const (.string ⟨#[73, 78, 78, 73, 78, 71, 83]⟩)), (1, .tmp 30)], some 31) by kernel_rfl) ho
  exact k_strs2 e.1 e.2 rfl rfl (holds_val (hn 30 (of_decide_eq_true (by kernel_rfl))) rfl).2 hG.size
theorem tx_15 (hR : ∀ x ∈ rulInts r, 0 ≤ x ∧ x ≤ 10000) {o : Oper} (ho : txOps[15]? = some o) (a : Act) (w : World) (hG : TxG w0 g r pv w) (hn : ∀ x ∈ txNeeds.getD 15 [], Holds (tabK w0.heap.size w0 (txKinds r g)) a w x) : Meets Tryz.prog (tabK w0.heap.size w0 (txKinds r g)) o a w := by
  have e := op_of (show (txOps[15]?).map (fun o => (o.op, o.dst)) = some (.call { callee := .value (.func 40), args := #[.tmp 31], argTypes := #[59] }, some 32) by kernel_rfl) ho
  obtain ⟨v, h1, h2⟩ := (holds_strs (hn 31 (of_decide_eq_true (by kernel_rfl))) rfl)
  exact k_line e.1 e.2 rfl h1 h2 (by simp) hG.size
theorem tx_16 (hR : ∀ x ∈ rulInts r, 0 ≤ x ∧ x ≤ 10000) {o : Oper} (ho : txOps[16]? = some o) (a : Act) (w : World) (hG : TxG w0 g r pv w) (hn : ∀ x ∈ txNeeds.getD 16 [], Holds (tabK w0.heap.size w0 (txKinds r g)) a w x) : Meets Tryz.prog (tabK w0.heap.size w0 (txKinds r g)) o a w := by
  have e := op_of (show (txOps[16]?).map (fun o => (o.op, o.dst)) = some (.move (.tmp 5), some 33) by kernel_rfl) ho
  exact meets_move (.inl e.1) (tab_o e.2 rfl (by rw [(holds_val (hn 5 (of_decide_eq_true (by kernel_rfl))) rfl).2]; rfl))
theorem tx_17 (hR : ∀ x ∈ rulInts r, 0 ≤ x ∧ x ≤ 10000) {o : Oper} (ho : txOps[17]? = some o) (a : Act) (w : World) (hG : TxG w0 g r pv w) (hn : ∀ x ∈ txNeeds.getD 17 [], Holds (tabK w0.heap.size w0 (txKinds r g)) a w x) : Meets Tryz.prog (tabK w0.heap.size w0 (txKinds r g)) o a w := by
  have e := op_of (show (txOps[17]?).map (fun o => (o.op, o.dst)) = some (.fieldAddr 24 (.tmp 1) 3, some 34) by kernel_rfl) ho
  exact meets_field e.1 (holds_val (hn 1 (of_decide_eq_true (by kernel_rfl))) rfl).2 (fld_3 g w) (tab_o e.2 rfl rfl)
theorem tx_18 (hR : ∀ x ∈ rulInts r, 0 ≤ x ∧ x ≤ 10000) {o : Oper} (ho : txOps[18]? = some o) (a : Act) (w : World) (hG : TxG w0 g r pv w) (hn : ∀ x ∈ txNeeds.getD 18 [], Holds (tabK w0.heap.size w0 (txKinds r g)) a w x) : Meets Tryz.prog (tabK w0.heap.size w0 (txKinds r g)) o a w := by
  have e := op_of (show (txOps[18]?).map (fun o => (o.op, o.dst)) = some (.load 3 (.tmp 34), some 35) by kernel_rfl) ho
  exact meets_load e.1 (holds_val (hn 34 (of_decide_eq_true (by kernel_rfl))) rfl).2 (loadAt_cell (by kernel_rfl) ((hG.lies.blk.cell 3).trans rfl)) (tab_o e.2 rfl rfl)
theorem tx_19 (hR : ∀ x ∈ rulInts r, 0 ≤ x ∧ x ≤ 10000) {o : Oper} (ho : txOps[19]? = some o) (a : Act) (w : World) (hG : TxG w0 g r pv w) (hn : ∀ x ∈ txNeeds.getD 19 [], Holds (tabK w0.heap.size w0 (txKinds r g)) a w x) : Meets Tryz.prog (tabK w0.heap.size w0 (txKinds r g)) o a w := by
  have e := op_of (show (txOps[19]?).map (fun o => (o.op, o.dst)) = some (.call { callee := .value (.tmp 33), args := #[.tmp 35], argTypes := #[3] }, some 36) by kernel_rfl) ho
  exact k_dec e.1 e.2 rfl (holds_val (hn 33 (of_decide_eq_true (by kernel_rfl))) rfl).2 (holds_val (hn 35 (of_decide_eq_true (by kernel_rfl))) rfl).2 hG.glob (hR _ (by simp [rulInts]))
theorem tx_20 (hR : ∀ x ∈ rulInts r, 0 ≤ x ∧ x ≤ 10000) {o : Oper} (ho : txOps[20]? = some o) (a : Act) (w : World) (hG : TxG w0 g r pv w) (hn : ∀ x ∈ txNeeds.getD 20 [], Holds (tabK w0.heap.size w0 (txKinds r g)) a w x) : Meets Tryz.prog (tabK w0.heap.size w0 (txKinds r g)) o a w := by
  have e := op_of (show (txOps[20]?).map (fun o => (o.op, o.dst)) = some (.buildSlice 59 2 #[(0, .const (.string ⟨#[79, 86, 69, 82, 83]⟩)), (1, .tmp 36)], some 37) by kernel_rfl) ho
  exact k_strs2 e.1 e.2 rfl rfl (holds_val (hn 36 (of_decide_eq_true (by kernel_rfl))) rfl).2 hG.size
theorem tx_21 (hR : ∀ x ∈ rulInts r, 0 ≤ x ∧ x ≤ 10000) {o : Oper} (ho : txOps[21]? = some o) (a : Act) (w : World) (hG : TxG w0 g r pv w) (hn : ∀ x ∈ txNeeds.getD 21 [], Holds (tabK w0.heap.size w0 (txKinds r g)) a w x) : Meets Tryz.prog (tabK w0.heap.size w0 (txKinds r g)) o a w := by
  have e := op_of (show (txOps[21]?).map (fun o => (o.op, o.dst)) = some (.call { callee := .value (.func 40), args := #[.tmp 37], argTypes := #[59] }, some 38) by kernel_rfl) ho
  obtain ⟨v, h1, h2⟩ := (holds_strs (hn 37 (of_decide_eq_true (by kernel_rfl))) rfl)
  exact k_line e.1 e.2 rfl h1 h2 (by simp) hG.size
theorem tx_22 (hR : ∀ x ∈ rulInts r, 0 ≤ x ∧ x ≤ 10000) {o : Oper} (ho : txOps[22]? = some o) (a : Act) (w : World) (hG : TxG w0 g r pv w) (hn : ∀ x ∈ txNeeds.getD 22 [], Holds (tabK w0.heap.size w0 (txKinds r g)) a w x) : Meets Tryz.prog (tabK w0.heap.size w0 (txKinds r g)) o a w := by
  have e := op_of (show (txOps[22]?).map (fun o => (o.op, o.dst)) = some (.move (.tmp 5), some 39) by kernel_rfl) ho
  exact meets_move (.inl e.1) (tab_o e.2 rfl (by rw [(holds_val (hn 5 (of_decide_eq_true (by kernel_rfl))) rfl).2]; rfl))
theorem tx_23 (hR : ∀ x ∈ rulInts r, 0 ≤ x ∧ x ≤ 10000) {o : Oper} (ho : txOps[23]? = some o) (a : Act) (w : World) (hG : TxG w0 g r pv w) (hn : ∀ x ∈ txNeeds.getD 23 [], Holds (tabK w0.heap.size w0 (txKinds r g)) a w x) : Meets Tryz.prog (tabK w0.heap.size w0 (txKinds r g)) o a w := by
  have e := op_of (show (txOps[23]?).map (fun o => (o.op, o.dst)) = some (.fieldAddr 24 (.tmp 1) 4, some 40) by kernel_rfl) ho
  exact meets_field e.1 (holds_val (hn 1 (of_decide_eq_true (by kernel_rfl))) rfl).2 (fld_4 g w) (tab_o e.2 rfl rfl)
theorem tx_24 (hR : ∀ x ∈ rulInts r, 0 ≤ x ∧ x ≤ 10000) {o : Oper} (ho : txOps[24]? = some o) (a : Act) (w : World) (hG : TxG w0 g r pv w) (hn : ∀ x ∈ txNeeds.getD 24 [], Holds (tabK w0.heap.size w0 (txKinds r g)) a w x) : Meets Tryz.prog (tabK w0.heap.size w0 (txKinds r g)) o a w := by
  have e := op_of (show (txOps[24]?).map (fun o => (o.op, o.dst)) = some (.load 3 (.tmp 40), some 41) by kernel_rfl) ho
  exact meets_load e.1 (holds_val (hn 40 (of_decide_eq_true (by kernel_rfl))) rfl).2 (loadAt_cell (by kernel_rfl) ((hG.lies.blk.cell 4).trans rfl)) (tab_o e.2 rfl rfl)
theorem tx_25 (hR : ∀ x ∈ rulInts r, 0 ≤ x ∧ x ≤ 10000) {o : Oper} (ho : txOps[25]? = some o) (a : Act) (w : World) (hG : TxG w0 g r pv w) (hn : ∀ x ∈ txNeeds.getD 25 [], Holds (tabK w0.heap.size w0 (txKinds r g)) a w x) : Meets Tryz.prog (tabK w0.heap.size w0 (txKinds r g)) o a w := by
  have e := op_of (show (txOps[25]?).map (fun o => (o.op, o.dst)) = some (.call { callee := .value (.tmp 39), args := #[.tmp 41], argTypes := #[3] }, some 42) by kernel_rfl) ho
  exact k_dec e.1 e.2 rfl (holds_val (hn 39 (of_decide_eq_true (by kernel_rfl))) rfl).2 (holds_val (hn 41 (of_decide_eq_true (by kernel_rfl))) rfl).2 hG.glob (hR _ (by simp [rulInts]))
theorem tx_26 (hR : ∀ x ∈ rulInts r, 0 ≤ x ∧ x ≤ 10000) {o : Oper} (ho : txOps[26]? = some o) (a : Act) (w : World) (hG : TxG w0 g r pv w) (hn : ∀ x ∈ txNeeds.getD 26 [], Holds (tabK w0.heap.size w0 (txKinds r g)) a w x) : Meets Tryz.prog (tabK w0.heap.size w0 (txKinds r g)) o a w := by
  have e := op_of (show (txOps[26]?).map (fun o => (o.op, o.dst)) = some (.buildSlice 59 2 #[(0, .const (.string ⟨#[66, 65, 76, 76, 83]⟩)), (1, .tmp 42)], some 43) by kernel_rfl) ho
  exact k_strs2 e.1 e.2 rfl rfl (holds_val (hn 42 (of_decide_eq_true (by kernel_rfl))) rfl).2 hG.size
theorem tx_27 (hR : ∀ x ∈ rulInts r, 0 ≤ x ∧ x ≤ 10000) {o : Oper} (ho : txOps[27]? = some o) (a : Act) (w : World) (hG : TxG w0 g r pv w) (hn : ∀ x ∈ txNeeds.getD 27 [], Holds (tabK w0.heap.size w0 (txKinds r g)) a w x) : Meets Tryz.prog (tabK w0.heap.size w0 (txKinds r g)) o a w := by
  have e := op_of (show (txOps[27]?).map (fun o => (o.op, o.dst)) = some (.call { callee := .value (.func 40), args := #[.tmp 43], argTypes := #[59] }, some 44) by kernel_rfl) ho
  obtain ⟨v, h1, h2⟩ := (holds_strs (hn 43 (of_decide_eq_true (by kernel_rfl))) rfl)
  exact k_line e.1 e.2 rfl h1 h2 (by simp) hG.size
theorem tx_28 (hR : ∀ x ∈ rulInts r, 0 ≤ x ∧ x ≤ 10000) {o : Oper} (ho : txOps[28]? = some o) (a : Act) (w : World) (hG : TxG w0 g r pv w) (hn : ∀ x ∈ txNeeds.getD 28 [], Holds (tabK w0.heap.size w0 (txKinds r g)) a w x) : Meets Tryz.prog (tabK w0.heap.size w0 (txKinds r g)) o a w := by
  have e := op_of (show (txOps[28]?).map (fun o => (o.op, o.dst)) = some (.move (.tmp 5), some 45) by kernel_rfl) ho
  exact meets_move (.inl e.1) (tab_o e.2 rfl (by rw [(holds_val (hn 5 (of_decide_eq_true (by kernel_rfl))) rfl).2]; rfl))
theorem tx_29 (hR : ∀ x ∈ rulInts r, 0 ≤ x ∧ x ≤ 10000) {o : Oper} (ho : txOps[29]? = some o) (a : Act) (w : World) (hG : TxG w0 g r pv w) (hn : ∀ x ∈ txNeeds.getD 29 [], Holds (tabK w0.heap.size w0 (txKinds r g)) a w x) : Meets Tryz.prog (tabK w0.heap.size w0 (txKinds r g)) o a w := by
  have e := op_of (show (txOps[29]?).map (fun o => (o.op, o.dst)) = some (.fieldAddr 24 (.tmp 1) 5, some 46) by kernel_rfl) ho
  exact meets_field e.1 (holds_val (hn 1 (of_decide_eq_true (by kernel_rfl))) rfl).2 (fld_5 g w) (tab_o e.2 rfl rfl)
theorem tx_30 (hR : ∀ x ∈ rulInts r, 0 ≤ x ∧ x ≤ 10000) {o : Oper} (ho : txOps[30]? = some o) (a : Act) (w : World) (hG : TxG w0 g r pv w) (hn : ∀ x ∈ txNeeds.getD 30 [], Holds (tabK w0.heap.size w0 (txKinds r g)) a w x) : Meets Tryz.prog (tabK w0.heap.size w0 (txKinds r g)) o a w := by
  have e := op_of (show (txOps[30]?).map (fun o => (o.op, o.dst)) = some (.load 3 (.tmp 46), some 47) by kernel_rfl) ho
  exact meets_load e.1 (holds_val (hn 46 (of_decide_eq_true (by kernel_rfl))) rfl).2 (loadAt_cell (by kernel_rfl) ((hG.lies.blk.cell 5).trans rfl)) (tab_o e.2 rfl rfl)
theorem tx_31 (hR : ∀ x ∈ rulInts r, 0 ≤ x ∧ x ≤ 10000) {o : Oper} (ho : txOps[31]? = some o) (a : Act) (w : World) (hG : TxG w0 g r pv w) (hn : ∀ x ∈ txNeeds.getD 31 [], Holds (tabK w0.heap.size w0 (txKinds r g)) a w x) : Meets Tryz.prog (tabK w0.heap.size w0 (txKinds r g)) o a w := by
  have e := op_of (show (txOps[31]?).map (fun o => (o.op, o.dst)) = some (.call { callee := .value (.tmp 45), args := #[.tmp 47], argTypes := #[3] }, some 48) by kernel_rfl) ho
  exact k_dec e.1 e.2 rfl (holds_val (hn 45 (of_decide_eq_true (by kernel_rfl))) rfl).2 (holds_val (hn 47 (of_decide_eq_true (by kernel_rfl))) rfl).2 hG.glob (hR _ (by simp [rulInts]))
theorem tx_32 (hR : ∀ x ∈ rulInts r, 0 ≤ x ∧ x ≤ 10000) {o : Oper} (ho : txOps[32]? = some o) (a : Act) (w : World) (hG : TxG w0 g r pv w) (hn : ∀ x ∈ txNeeds.getD 32 [], Holds (tabK w0.heap.size w0 (txKinds r g)) a w x) : Meets Tryz.prog (tabK w0.heap.size w0 (txKinds r g)) o a w := by
  have e := op_of (show (txOps[32]?).map (fun o => (o.op, o.dst)) = some (.buildSlice 59 2 #[(0, .const (.string ⟨#[81, 85, 79, 84, 65]⟩)), (1, .tmp 48)], some 49) by kernel_rfl) ho
  exact k_strs2 e.1 e.2 rfl rfl (holds_val (hn 48 (of_decide_eq_true (by kernel_rfl))) rfl).2 hG.size
theorem tx_33 (hR : ∀ x ∈ rulInts r, 0 ≤ x ∧ x ≤ 10000) {o : Oper} (ho : txOps[33]? = some o) (a : Act) (w : World) (hG : TxG w0 g r pv w) (hn : ∀ x ∈ txNeeds.getD 33 [], Holds (tabK w0.heap.size w0 (txKinds r g)) a w x) : Meets Tryz.prog (tabK w0.heap.size w0 (txKinds r g)) o a w := by
  have e := op_of (show (txOps[33]?).map (fun o => (o.op, o.dst)) = some (.call { callee := .value (.func 40), args := #[.tmp 49], argTypes := #[59] }, some 50) by kernel_rfl) ho
  obtain ⟨v, h1, h2⟩ := (holds_strs (hn 49 (of_decide_eq_true (by kernel_rfl))) rfl)
  exact k_line e.1 e.2 rfl h1 h2 (by simp) hG.size
theorem tx_34 (hR : ∀ x ∈ rulInts r, 0 ≤ x ∧ x ≤ 10000) {o : Oper} (ho : txOps[34]? = some o) (a : Act) (w : World) (hG : TxG w0 g r pv w) (hn : ∀ x ∈ txNeeds.getD 34 [], Holds (tabK w0.heap.size w0 (txKinds r g)) a w x) : Meets Tryz.prog (tabK w0.heap.size w0 (txKinds r g)) o a w := by
  have e := op_of (show (txOps[34]?).map (fun o => (o.op, o.dst)) = some (.move (.tmp 5), some 51) by kernel_rfl) ho
  exact meets_move (.inl e.1) (tab_o e.2 rfl (by rw [(holds_val (hn 5 (of_decide_eq_true (by kernel_rfl))) rfl).2]; rfl))
theorem tx_35 (hR : ∀ x ∈ rulInts r, 0 ≤ x ∧ x ≤ 10000) {o : Oper} (ho : txOps[35]? = some o) (a : Act) (w : World) (hG : TxG w0 g r pv w) (hn : ∀ x ∈ txNeeds.getD 35 [], Holds (tabK w0.heap.size w0 (txKinds r g)) a w x) : Meets Tryz.prog (tabK w0.heap.size w0 (txKinds r g)) o a w := by
  have e := op_of (show (txOps[35]?).map (fun o => (o.op, o.dst)) = some (.fieldAddr 24 (.tmp 1) 6, some 52) by kernel_rfl) ho
  exact meets_field e.1 (holds_val (hn 1 (of_decide_eq_true (by kernel_rfl))) rfl).2 (fld_6 g w) (tab_o e.2 rfl rfl)
theorem tx_36 (hR : ∀ x ∈ rulInts r, 0 ≤ x ∧ x ≤ 10000) {o : Oper} (ho : txOps[36]? = some o) (a : Act) (w : World) (hG : TxG w0 g r pv w) (hn : ∀ x ∈ txNeeds.getD 36 [], Holds (tabK w0.heap.size w0 (txKinds r g)) a w x) : Meets Tryz.prog (tabK w0.heap.size w0 (txKinds r g)) o a w := by
  have e := op_of (show (txOps[36]?).map (fun o => (o.op, o.dst)) = some (.load 3 (.tmp 52), some 53) by kernel_rfl) ho
  exact meets_load e.1 (holds_val (hn 52 (of_decide_eq_true (by kernel_rfl))) rfl).2 (loadAt_cell (by kernel_rfl) ((hG.lies.blk.cell 6).trans rfl)) (tab_o e.2 rfl rfl)
theorem tx_37 (hR : ∀ x ∈ rulInts r, 0 ≤ x ∧ x ≤ 10000) {o : Oper} (ho : txOps[37]? = some o) (a : Act) (w : World) (hG : TxG w0 g r pv w) (hn : ∀ x ∈ txNeeds.getD 37 [], Holds (tabK w0.heap.size w0 (txKinds r g)) a w x) : Meets Tryz.prog (tabK w0.heap.size w0 (txKinds r g)) o a w := by
  have e := op_of (show (txOps[37]?).map (fun o => (o.op, o.dst)) = some (.call { callee := .value (.tmp 51), args := #[.tmp 53], argTypes := #[3] }, some 54) by kernel_rfl) ho
  exact k_dec e.1 e.2 rfl (holds_val (hn 51 (of_decide_eq_true (by kernel_rfl))) rfl).2 (holds_val (hn 53 (of_decide_eq_true (by kernel_rfl))) rfl).2 hG.glob (hR _ (by simp [rulInts]))
theorem tx_38 (hR : ∀ x ∈ rulInts r, 0 ≤ x ∧ x ≤ 10000) {o : Oper} (ho : txOps[38]? = some o) (a : Act) (w : World) (hG : TxG w0 g r pv w) (hn : ∀ x ∈ txNeeds.getD 38 [], Holds (tabK w0.heap.size w0 (txKinds r g)) a w x) : Meets Tryz.prog (tabK w0.heap.size w0 (txKinds r g)) o a w := by
  have e := op_of (show (txOps[38]?).map (fun o => (o.op, o.dst)) = some (.move (.tmp 5), some 55) by kernel_rfl) ho
  exact meets_move (.inl e.1) (tab_o e.2 rfl (by rw [(holds_val (hn 5 (of_decide_eq_true (by kernel_rfl))) rfl).2]; rfl))
theorem tx_39 (hR : ∀ x ∈ rulInts r, 0 ≤ x ∧ x ≤ 10000) {o : Oper} (ho : txOps[39]? = some o) (a : Act) (w : World) (hG : TxG w0 g r pv w) (hn : ∀ x ∈ txNeeds.getD 39 [], Holds (tabK w0.heap.size w0 (txKinds r g)) a w x) : Meets Tryz.prog (tabK w0.heap.size w0 (txKinds r g)) o a w := by
  have e := op_of (show (txOps[39]?).map (fun o => (o.op, o.dst)) = some (.fieldAddr 24 (.tmp 1) 7, some 56) by kernel_rfl) ho
  exact meets_field e.1 (holds_val (hn 1 (of_decide_eq_true (by kernel_rfl))) rfl).2 (fld_7 g w) (tab_o e.2 rfl rfl)
theorem tx_40 (hR : ∀ x ∈ rulInts r, 0 ≤ x ∧ x ≤ 10000) {o : Oper} (ho : txOps[40]? = some o) (a : Act) (w : World) (hG : TxG w0 g r pv w) (hn : ∀ x ∈ txNeeds.getD 40 [], Holds (tabK w0.heap.size w0 (txKinds r g)) a w x) : Meets Tryz.prog (tabK w0.heap.size w0 (txKinds r g)) o a w := by
  have e := op_of (show (txOps[40]?).map (fun o => (o.op, o.dst)) = some (.load 3 (.tmp 56), some 57) by kernel_rfl) ho
  exact meets_load e.1 (holds_val (hn 56 (of_decide_eq_true (by kernel_rfl))) rfl).2 (loadAt_cell (by kernel_rfl) ((hG.lies.blk.cell 7).trans rfl)) (tab_o e.2 rfl rfl)
theorem tx_41 (hR : ∀ x ∈ rulInts r, 0 ≤ x ∧ x ≤ 10000) {o : Oper} (ho : txOps[41]? = some o) (a : Act) (w : World) (hG : TxG w0 g r pv w) (hn : ∀ x ∈ txNeeds.getD 41 [], Holds (tabK w0.heap.size w0 (txKinds r g)) a w x) : Meets Tryz.prog (tabK w0.heap.size w0 (txKinds r g)) o a w := by
  have e := op_of (show (txOps[41]?).map (fun o => (o.op, o.dst)) = some (.call { callee := .value (.tmp 55), args := #[.tmp 57], argTypes := #[3] }, some 58) by kernel_rfl) ho
  exact k_dec e.1 e.2 rfl (holds_val (hn 55 (of_decide_eq_true (by kernel_rfl))) rfl).2 (holds_val (hn 57 (of_decide_eq_true (by kernel_rfl))) rfl).2 hG.glob (hR _ (by simp [rulInts]))
theorem tx_42 (hR : ∀ x ∈ rulInts r, 0 ≤ x ∧ x ≤ 10000) {o : Oper} (ho : txOps[42]? = some o) (a : Act) (w : World) (hG : TxG w0 g r pv w) (hn : ∀ x ∈ txNeeds.getD 42 [], Holds (tabK w0.heap.size w0 (txKinds r g)) a w x) : Meets Tryz.prog (tabK w0.heap.size w0 (txKinds r g)) o a w := by
  have e := op_of (show (txOps[42]?).map (fun o => (o.op, o.dst)) = some (.buildSlice 59 3 #[(0, .const (.string ⟨#[82, 85, 78, 83]⟩)), (1, .tmp 54), (2, .tmp 58)], some 59) by kernel_rfl) ho
  exact k_strs3 e.1 e.2 rfl rfl (holds_val (hn 54 (of_decide_eq_true (by kernel_rfl))) rfl).2 (holds_val (hn 58 (of_decide_eq_true (by kernel_rfl))) rfl).2 hG.size
theorem tx_43 (hR : ∀ x ∈ rulInts r, 0 ≤ x ∧ x ≤ 10000) {o : Oper} (ho : txOps[43]? = some o) (a : Act) (w : World) (hG : TxG w0 g r pv w) (hn : ∀ x ∈ txNeeds.getD 43 [], Holds (tabK w0.heap.size w0 (txKinds r g)) a w x) : Meets Tryz.prog (tabK w0.heap.size w0 (txKinds r g)) o a w := by
  have e := op_of (show (txOps[43]?).map (fun o => (o.op, o.dst)) = some (.call { callee := .value (.func 40), args := #[.tmp 59], argTypes := #[59] }, some 60) by kernel_rfl) ho
  obtain ⟨v, h1, h2⟩ := (holds_strs (hn 59 (of_decide_eq_true (by kernel_rfl))) rfl)
  exact k_line e.1 e.2 rfl h1 h2 (by simp) hG.size
theorem tx_44 (hR : ∀ x ∈ rulInts r, 0 ≤ x ∧ x ≤ 10000) {o : Oper} (ho : txOps[44]? = some o) (a : Act) (w : World) (hG : TxG w0 g r pv w) (hn : ∀ x ∈ txNeeds.getD 44 [], Holds (tabK w0.heap.size w0 (txKinds r g)) a w x) : Meets Tryz.prog (tabK w0.heap.size w0 (txKinds r g)) o a w := by
  have e := op_of (show (txOps[44]?).map (fun o => (o.op, o.dst)) = some (.move (.tmp 6), some 61) by kernel_rfl) ho
  exact meets_move (.inl e.1) (tab_o e.2 rfl (by rw [(holds_val (hn 6 (of_decide_eq_true (by kernel_rfl))) rfl).2]; rfl))
theorem tx_45 (hR : ∀ x ∈ rulInts r, 0 ≤ x ∧ x ≤ 10000) {o : Oper} (ho : txOps[45]? = some o) (a : Act) (w : World) (hG : TxG w0 g r pv w) (hn : ∀ x ∈ txNeeds.getD 45 [], Holds (tabK w0.heap.size w0 (txKinds r g)) a w x) : Meets Tryz.prog (tabK w0.heap.size w0 (txKinds r g)) o a w := by
  have e := op_of (show (txOps[45]?).map (fun o => (o.op, o.dst)) = some (.buildSlice 59 2 #[(0, .const (.string ⟨#[70, 82, 69, 69, 72, 73, 84]⟩)), (1, .tmp 61)], some 62) by kernel_rfl) ho
  exact k_strs2 e.1 e.2 rfl rfl (holds_val (hn 61 (of_decide_eq_true (by kernel_rfl))) rfl).2 hG.size
theorem tx_46 (hR : ∀ x ∈ rulInts r, 0 ≤ x ∧ x ≤ 10000) {o : Oper} (ho : txOps[46]? = some o) (a : Act) (w : World) (hG : TxG w0 g r pv w) (hn : ∀ x ∈ txNeeds.getD 46 [], Holds (tabK w0.heap.size w0 (txKinds r g)) a w x) : Meets Tryz.prog (tabK w0.heap.size w0 (txKinds r g)) o a w := by
  have e := op_of (show (txOps[46]?).map (fun o => (o.op, o.dst)) = some (.call { callee := .value (.func 40), args := #[.tmp 62], argTypes := #[59] }, some 63) by kernel_rfl) ho
  obtain ⟨v, h1, h2⟩ := (holds_strs (hn 62 (of_decide_eq_true (by kernel_rfl))) rfl)
  exact k_line e.1 e.2 rfl h1 h2 (by simp) hG.size
theorem tx_47 (hR : ∀ x ∈ rulInts r, 0 ≤ x ∧ x ≤ 10000) {o : Oper} (ho : txOps[47]? = some o) (a : Act) (w : World) (hG : TxG w0 g r pv w) (hn : ∀ x ∈ txNeeds.getD 47 [], Holds (tabK w0.heap.size w0 (txKinds r g)) a w x) : Meets Tryz.prog (tabK w0.heap.size w0 (txKinds r g)) o a w := by
  have e := op_of (show (txOps[47]?).map (fun o => (o.op, o.dst)) = some (.move (.tmp 5), some 64) by kernel_rfl) ho
  exact meets_move (.inl e.1) (tab_o e.2 rfl (by rw [(holds_val (hn 5 (of_decide_eq_true (by kernel_rfl))) rfl).2]; rfl))
theorem tx_48 (hR : ∀ x ∈ rulInts r, 0 ≤ x ∧ x ≤ 10000) {o : Oper} (ho : txOps[48]? = some o) (a : Act) (w : World) (hG : TxG w0 g r pv w) (hn : ∀ x ∈ txNeeds.getD 48 [], Holds (tabK w0.heap.size w0 (txKinds r g)) a w x) : Meets Tryz.prog (tabK w0.heap.size w0 (txKinds r g)) o a w := by
  have e := op_of (show (txOps[48]?).map (fun o => (o.op, o.dst)) = some (.fieldAddr 24 (.tmp 1) 9, some 65) by kernel_rfl) ho
  exact meets_field e.1 (holds_val (hn 1 (of_decide_eq_true (by kernel_rfl))) rfl).2 (fld_9 g w) (tab_o e.2 rfl rfl)
theorem tx_49 (hR : ∀ x ∈ rulInts r, 0 ≤ x ∧ x ≤ 10000) {o : Oper} (ho : txOps[49]? = some o) (a : Act) (w : World) (hG : TxG w0 g r pv w) (hn : ∀ x ∈ txNeeds.getD 49 [], Holds (tabK w0.heap.size w0 (txKinds r g)) a w x) : Meets Tryz.prog (tabK w0.heap.size w0 (txKinds r g)) o a w := by
  have e := op_of (show (txOps[49]?).map (fun o => (o.op, o.dst)) = some (.load 3 (.tmp 65), some 66) by kernel_rfl) ho
  exact meets_load e.1 (holds_val (hn 65 (of_decide_eq_true (by kernel_rfl))) rfl).2 (loadAt_cell (by kernel_rfl) ((hG.lies.blk.cell 9).trans rfl)) (tab_o e.2 rfl rfl)
theorem tx_50 (hR : ∀ x ∈ rulInts r, 0 ≤ x ∧ x ≤ 10000) {o : Oper} (ho : txOps[50]? = some o) (a : Act) (w : World) (hG : TxG w0 g r pv w) (hn : ∀ x ∈ txNeeds.getD 50 [], Holds (tabK w0.heap.size w0 (txKinds r g)) a w x) : Meets Tryz.prog (tabK w0.heap.size w0 (txKinds r g)) o a w := by
  have e := op_of (show (txOps[50]?).map (fun o => (o.op, o.dst)) = some (.call { callee := .value (.tmp 64), args := #[.tmp 66], argTypes := #[3] }, some 67) by kernel_rfl) ho
  exact k_dec e.1 e.2 rfl (holds_val (hn 64 (of_decide_eq_true (by kernel_rfl))) rfl).2 (holds_val (hn 66 (of_decide_eq_true (by kernel_rfl))) rfl).2 hG.glob (hR _ (by simp [rulInts]))
theorem tx_51 (hR : ∀ x ∈ rulInts r, 0 ≤ x ∧ x ≤ 10000) {o : Oper} (ho : txOps[51]? = some o) (a : Act) (w : World) (hG : TxG w0 g r pv w) (hn : ∀ x ∈ txNeeds.getD 51 [], Holds (tabK w0.heap.size w0 (txKinds r g)) a w x) : Meets Tryz.prog (tabK w0.heap.size w0 (txKinds r g)) o a w := by
  have e := op_of (show (txOps[51]?).map (fun o => (o.op, o.dst)) = some (.buildSlice 59 2 #[(0, .const (.string ⟨#[78, 69, 87, 66, 65, 76, 76]⟩)), (1, .tmp 67)], some 68) by kernel_rfl) ho
  exact k_strs2 e.1 e.2 rfl rfl (holds_val (hn 67 (of_decide_eq_true (by kernel_rfl))) rfl).2 hG.size
theorem tx_52 (hR : ∀ x ∈ rulInts r, 0 ≤ x ∧ x ≤ 10000) {o : Oper} (ho : txOps[52]? = some o) (a : Act) (w : World) (hG : TxG w0 g r pv w) (hn : ∀ x ∈ txNeeds.getD 52 [], Holds (tabK w0.heap.size w0 (txKinds r g)) a w x) : Meets Tryz.prog (tabK w0.heap.size w0 (txKinds r g)) o a w := by
  have e := op_of (show (txOps[52]?).map (fun o => (o.op, o.dst)) = some (.call { callee := .value (.func 40), args := #[.tmp 68], argTypes := #[59] }, some 69) by kernel_rfl) ho
  obtain ⟨v, h1, h2⟩ := (holds_strs (hn 68 (of_decide_eq_true (by kernel_rfl))) rfl)
  exact k_line e.1 e.2 rfl h1 h2 (by simp) hG.size
theorem tx_53 (hR : ∀ x ∈ rulInts r, 0 ≤ x ∧ x ≤ 10000) {o : Oper} (ho : txOps[53]? = some o) (a : Act) (w : World) (hG : TxG w0 g r pv w) (hn : ∀ x ∈ txNeeds.getD 53 [], Holds (tabK w0.heap.size w0 (txKinds r g)) a w x) : Meets Tryz.prog (tabK w0.heap.size w0 (txKinds r g)) o a w := by
  have e := op_of (show (txOps[53]?).map (fun o => (o.op, o.dst)) = some (.move (.tmp 5), some 70) by kernel_rfl) ho
  exact meets_move (.inl e.1) (tab_o e.2 rfl (by rw [(holds_val (hn 5 (of_decide_eq_true (by kernel_rfl))) rfl).2]; rfl))
theorem tx_54 (hR : ∀ x ∈ rulInts r, 0 ≤ x ∧ x ≤ 10000) {o : Oper} (ho : txOps[54]? = some o) (a : Act) (w : World) (hG : TxG w0 g r pv w) (hn : ∀ x ∈ txNeeds.getD 54 [], Holds (tabK w0.heap.size w0 (txKinds r g)) a w x) : Meets Tryz.prog (tabK w0.heap.size w0 (txKinds r g)) o a w := by
  have e := op_of (show (txOps[54]?).map (fun o => (o.op, o.dst)) = some (.fieldAddr 24 (.tmp 1) 10, some 71) by kernel_rfl) ho
  exact meets_field e.1 (holds_val (hn 1 (of_decide_eq_true (by kernel_rfl))) rfl).2 (fld_10 g w) (tab_o e.2 rfl rfl)
theorem tx_55 (hR : ∀ x ∈ rulInts r, 0 ≤ x ∧ x ≤ 10000) {o : Oper} (ho : txOps[55]? = some o) (a : Act) (w : World) (hG : TxG w0 g r pv w) (hn : ∀ x ∈ txNeeds.getD 55 [], Holds (tabK w0.heap.size w0 (txKinds r g)) a w x) : Meets Tryz.prog (tabK w0.heap.size w0 (txKinds r g)) o a w := by
  have e := op_of (show (txOps[55]?).map (fun o => (o.op, o.dst)) = some (.load 3 (.tmp 71), some 72) by kernel_rfl) ho
  exact meets_load e.1 (holds_val (hn 71 (of_decide_eq_true (by kernel_rfl))) rfl).2 (loadAt_cell (by kernel_rfl) ((hG.lies.blk.cell 10).trans rfl)) (tab_o e.2 rfl rfl)
theorem tx_56 (hR : ∀ x ∈ rulInts r, 0 ≤ x ∧ x ≤ 10000) {o : Oper} (ho : txOps[56]? = some o) (a : Act) (w : World) (hG : TxG w0 g r pv w) (hn : ∀ x ∈ txNeeds.getD 56 [], Holds (tabK w0.heap.size w0 (txKinds r g)) a w x) : Meets Tryz.prog (tabK w0.heap.size w0 (txKinds r g)) o a w := by
  have e := op_of (show (txOps[56]?).map (fun o => (o.op, o.dst)) = some (.call { callee := .value (.tmp 70), args := #[.tmp 72], argTypes := #[3] }, some 73) by kernel_rfl) ho
  exact k_dec e.1 e.2 rfl (holds_val (hn 70 (of_decide_eq_true (by kernel_rfl))) rfl).2 (holds_val (hn 72 (of_decide_eq_true (by kernel_rfl))) rfl).2 hG.glob (hR _ (by simp [rulInts]))
theorem tx_57 (hR : ∀ x ∈ rulInts r, 0 ≤ x ∧ x ≤ 10000) {o : Oper} (ho : txOps[57]? = some o) (a : Act) (w : World) (hG : TxG w0 g r pv w) (hn : ∀ x ∈ txNeeds.getD 57 [], Holds (tabK w0.heap.size w0 (txKinds r g)) a w x) : Meets Tryz.prog (tabK w0.heap.size w0 (txKinds r g)) o a w := by
  have e := op_of (show (txOps[57]?).map (fun o => (o.op, o.dst)) = some (.buildSlice 59 2 #[(0, .const (.string ⟨#[70, 79, 76, 76, 79, 87, 79, 78]⟩)), (1, .tmp 73)], some 74) by kernel_rfl) ho
  exact k_strs2 e.1 e.2 rfl rfl (holds_val (hn 73 (of_decide_eq_true (by kernel_rfl))) rfl).2 hG.size
theorem tx_58 (hR : ∀ x ∈ rulInts r, 0 ≤ x ∧ x ≤ 10000) {o : Oper} (ho : txOps[58]? = some o) (a : Act) (w : World) (hG : TxG w0 g r pv w) (hn : ∀ x ∈ txNeeds.getD 58 [], Holds (tabK w0.heap.size w0 (txKinds r g)) a w x) : Meets Tryz.prog (tabK w0.heap.size w0 (txKinds r g)) o a w := by
  have e := op_of (show (txOps[58]?).map (fun o => (o.op, o.dst)) = some (.call { callee := .value (.func 40), args := #[.tmp 74], argTypes := #[59] }, some 75) by kernel_rfl) ho
  obtain ⟨v, h1, h2⟩ := (holds_strs (hn 74 (of_decide_eq_true (by kernel_rfl))) rfl)
  exact k_line e.1 e.2 rfl h1 h2 (by simp) hG.size
theorem tx_59 (hR : ∀ x ∈ rulInts r, 0 ≤ x ∧ x ≤ 10000) {o : Oper} (ho : txOps[59]? = some o) (a : Act) (w : World) (hG : TxG w0 g r pv w) (hn : ∀ x ∈ txNeeds.getD 59 [], Holds (tabK w0.heap.size w0 (txKinds r g)) a w x) : Meets Tryz.prog (tabK w0.heap.size w0 (txKinds r g)) o a w := by
  have e := op_of (show (txOps[59]?).map (fun o => (o.op, o.dst)) = some (.move (.tmp 5), some 76) by kernel_rfl) ho
  exact meets_move (.inl e.1) (tab_o e.2 rfl (by rw [(holds_val (hn 5 (of_decide_eq_true (by kernel_rfl))) rfl).2]; rfl))
theorem tx_60 (hR : ∀ x ∈ rulInts r, 0 ≤ x ∧ x ≤ 10000) {o : Oper} (ho : txOps[60]? = some o) (a : Act) (w : World) (hG : TxG w0 g r pv w) (hn : ∀ x ∈ txNeeds.getD 60 [], Holds (tabK w0.heap.size w0 (txKinds r g)) a w x) : Meets Tryz.prog (tabK w0.heap.size w0 (txKinds r g)) o a w := by
  have e := op_of (show (txOps[60]?).map (fun o => (o.op, o.dst)) = some (.fieldAddr 24 (.tmp 1) 11, some 77) by kernel_rfl) ho
  exact meets_field e.1 (holds_val (hn 1 (of_decide_eq_true (by kernel_rfl))) rfl).2 (fld_11 g w) (tab_o e.2 rfl rfl)
theorem tx_61 (hR : ∀ x ∈ rulInts r, 0 ≤ x ∧ x ≤ 10000) {o : Oper} (ho : txOps[61]? = some o) (a : Act) (w : World) (hG : TxG w0 g r pv w) (hn : ∀ x ∈ txNeeds.getD 61 [], Holds (tabK w0.heap.size w0 (txKinds r g)) a w x) : Meets Tryz.prog (tabK w0.heap.size w0 (txKinds r g)) o a w := by
  have e := op_of (show (txOps[61]?).map (fun o => (o.op, o.dst)) = some (.load 3 (.tmp 77), some 78) by kernel_rfl) ho
  exact meets_load e.1 (holds_val (hn 77 (of_decide_eq_true (by kernel_rfl))) rfl).2 (loadAt_cell (by kernel_rfl) ((hG.lies.blk.cell 11).trans rfl)) (tab_o e.2 rfl rfl)
theorem tx_62 (hR : ∀ x ∈ rulInts r, 0 ≤ x ∧ x ≤ 10000) {o : Oper} (ho : txOps[62]? = some o) (a : Act) (w : World) (hG : TxG w0 g r pv w) (hn : ∀ x ∈ txNeeds.getD 62 [], Holds (tabK w0.heap.size w0 (txKinds r g)) a w x) : Meets Tryz.prog (tabK w0.heap.size w0 (txKinds r g)) o a w := by
  have e := op_of (show (txOps[62]?).map (fun o => (o.op, o.dst)) = some (.call { callee := .value (.tmp 76), args := #[.tmp 78], argTypes := #[3] }, some 79) by kernel_rfl) ho
  exact k_dec e.1 e.2 rfl (holds_val (hn 76 (of_decide_eq_true (by kernel_rfl))) rfl).2 (holds_val (hn 78 (of_decide_eq_true (by kernel_rfl))) rfl).2 hG.glob (hR _ (by simp [rulInts]))
theorem tx_63 (hR : ∀ x ∈ rulInts r, 0 ≤ x ∧ x ≤ 10000) {o : Oper} (ho : txOps[63]? = some o) (a : Act) (w : World) (hG : TxG w0 g r pv w) (hn : ∀ x ∈ txNeeds.getD 63 [], Holds (tabK w0.heap.size w0 (txKinds r g)) a w x) : Meets Tryz.prog (tabK w0.heap.size w0 (txKinds r g)) o a w := by
  have e := op_of (show (txOps[63]?).map (fun o => (o.op, o.dst)) = some (.buildSlice 59 2 #[(0, .const (.string ⟨#[82, 69, 86, 73, 69, 87, 83]⟩)), (1, .tmp 79)], some 80) by kernel_rfl) ho
  exact k_strs2 e.1 e.2 rfl rfl (holds_val (hn 79 (of_decide_eq_true (by kernel_rfl))) rfl).2 hG.size
theorem tx_64 (hR : ∀ x ∈ rulInts r, 0 ≤ x ∧ x ≤ 10000) {o : Oper} (ho : txOps[64]? = some o) (a : Act) (w : World) (hG : TxG w0 g r pv w) (hn : ∀ x ∈ txNeeds.getD 64 [], Holds (tabK w0.heap.size w0 (txKinds r g)) a w x) : Meets Tryz.prog (tabK w0.heap.size w0 (txKinds r g)) o a w := by
  have e := op_of (show (txOps[64]?).map (fun o => (o.op, o.dst)) = some (.call { callee := .value (.func 40), args := #[.tmp 80], argTypes := #[59] }, some 81) by kernel_rfl) ho
  obtain ⟨v, h1, h2⟩ := (holds_strs (hn 80 (of_decide_eq_true (by kernel_rfl))) rfl)
  exact k_line e.1 e.2 rfl h1 h2 (by simp) hG.size
theorem tx_65 (hR : ∀ x ∈ rulInts r, 0 ≤ x ∧ x ≤ 10000) {o : Oper} (ho : txOps[65]? = some o) (a : Act) (w : World) (hG : TxG w0 g r pv w) (hn : ∀ x ∈ txNeeds.getD 65 [], Holds (tabK w0.heap.size w0 (txKinds r g)) a w x) : Meets Tryz.prog (tabK w0.heap.size w0 (txKinds r g)) o a w := by
  have e := op_of (show (txOps[65]?).map (fun o => (o.op, o.dst)) = some (.move (.tmp 5), some 82) by kernel_rfl) ho
  exact meets_move (.inl e.1) (tab_o e.2 rfl (by rw [(holds_val (hn 5 (of_decide_eq_true (by kernel_rfl))) rfl).2]; rfl))
theorem tx_66 (hR : ∀ x ∈ rulInts r, 0 ≤ x ∧ x ≤ 10000) {o : Oper} (ho : txOps[66]? = some o) (a : Act) (w : World) (hG : TxG w0 g r pv w) (hn : ∀ x ∈ txNeeds.getD 66 [], Holds (tabK w0.heap.size w0 (txKinds r g)) a w x) : Meets Tryz.prog (tabK w0.heap.size w0 (txKinds r g)) o a w := by
  have e := op_of (show (txOps[66]?).map (fun o => (o.op, o.dst)) = some (.fieldAddr 24 (.tmp 1) 12, some 83) by kernel_rfl) ho
  exact meets_field e.1 (holds_val (hn 1 (of_decide_eq_true (by kernel_rfl))) rfl).2 (fld_12 g w) (tab_o e.2 rfl rfl)
theorem tx_67 (hR : ∀ x ∈ rulInts r, 0 ≤ x ∧ x ≤ 10000) {o : Oper} (ho : txOps[67]? = some o) (a : Act) (w : World) (hG : TxG w0 g r pv w) (hn : ∀ x ∈ txNeeds.getD 67 [], Holds (tabK w0.heap.size w0 (txKinds r g)) a w x) : Meets Tryz.prog (tabK w0.heap.size w0 (txKinds r g)) o a w := by
  have e := op_of (show (txOps[67]?).map (fun o => (o.op, o.dst)) = some (.load 3 (.tmp 83), some 84) by kernel_rfl) ho
  exact meets_load e.1 (holds_val (hn 83 (of_decide_eq_true (by kernel_rfl))) rfl).2 (loadAt_cell (by kernel_rfl) ((hG.lies.blk.cell 12).trans rfl)) (tab_o e.2 rfl rfl)
theorem tx_68 (hR : ∀ x ∈ rulInts r, 0 ≤ x ∧ x ≤ 10000) {o : Oper} (ho : txOps[68]? = some o) (a : Act) (w : World) (hG : TxG w0 g r pv w) (hn : ∀ x ∈ txNeeds.getD 68 [], Holds (tabK w0.heap.size w0 (txKinds r g)) a w x) : Meets Tryz.prog (tabK w0.heap.size w0 (txKinds r g)) o a w := by
  have e := op_of (show (txOps[68]?).map (fun o => (o.op, o.dst)) = some (.call { callee := .value (.tmp 82), args := #[.tmp 84], argTypes := #[3] }, some 85) by kernel_rfl) ho
  exact k_dec e.1 e.2 rfl (holds_val (hn 82 (of_decide_eq_true (by kernel_rfl))) rfl).2 (holds_val (hn 84 (of_decide_eq_true (by kernel_rfl))) rfl).2 hG.glob (hR _ (by simp [rulInts]))
theorem tx_69 (hR : ∀ x ∈ rulInts r, 0 ≤ x ∧ x ≤ 10000) {o : Oper} (ho : txOps[69]? = some o) (a : Act) (w : World) (hG : TxG w0 g r pv w) (hn : ∀ x ∈ txNeeds.getD 69 [], Holds (tabK w0.heap.size w0 (txKinds r g)) a w x) : Meets Tryz.prog (tabK w0.heap.size w0 (txKinds r g)) o a w := by
  have e := op_of (show (txOps[69]?).map (fun o => (o.op, o.dst)) = some (.buildSlice 59 2 #[(0, .const (.string ⟨#[79, 85, 84, 83, 73, 68, 69]⟩)), (1, .tmp 85)], some 86) by kernel_rfl) ho
  exact k_strs2 e.1 e.2 rfl rfl (holds_val (hn 85 (of_decide_eq_true (by kernel_rfl))) rfl).2 hG.size
theorem tx_70 (hR : ∀ x ∈ rulInts r, 0 ≤ x ∧ x ≤ 10000) {o : Oper} (ho : txOps[70]? = some o) (a : Act) (w : World) (hG : TxG w0 g r pv w) (hn : ∀ x ∈ txNeeds.getD 70 [], Holds (tabK w0.heap.size w0 (txKinds r g)) a w x) : Meets Tryz.prog (tabK w0.heap.size w0 (txKinds r g)) o a w := by
  have e := op_of (show (txOps[70]?).map (fun o => (o.op, o.dst)) = some (.call { callee := .value (.func 40), args := #[.tmp 86], argTypes := #[59] }, some 87) by kernel_rfl) ho
  obtain ⟨v, h1, h2⟩ := (holds_strs (hn 86 (of_decide_eq_true (by kernel_rfl))) rfl)
  exact k_line e.1 e.2 rfl h1 h2 (by simp) hG.size
theorem tx_71 (hR : ∀ x ∈ rulInts r, 0 ≤ x ∧ x ≤ 10000) {o : Oper} (ho : txOps[71]? = some o) (a : Act) (w : World) (hG : TxG w0 g r pv w) (hn : ∀ x ∈ txNeeds.getD 71 [], Holds (tabK w0.heap.size w0 (txKinds r g)) a w x) : Meets Tryz.prog (tabK w0.heap.size w0 (txKinds r g)) o a w := by
  have e := op_of (show (txOps[71]?).map (fun o => (o.op, o.dst)) = some (.buildSlice 57 12 #[(0, .tmp 20), (1, .tmp 26), (2, .tmp 32), (3, .tmp 38), (4, .tmp 44), (5, .tmp 50), (6, .tmp 60), (7, .tmp 63), (8, .tmp 69), (9, .tmp 75), (10, .tmp 81), (11, .tmp 87)], some 88) by kernel_rfl) ho
  obtain ⟨A0, n0, c0, a0, b0⟩ := (holds_line (hn 20 (of_decide_eq_true (by kernel_rfl))) rfl)
  obtain ⟨A1, n1, c1, a1, b1⟩ := (holds_line (hn 26 (of_decide_eq_true (by kernel_rfl))) rfl)
  obtain ⟨A2, n2, c2, a2, b2⟩ := (holds_line (hn 32 (of_decide_eq_true (by kernel_rfl))) rfl)
  obtain ⟨A3, n3, c3, a3, b3⟩ := (holds_line (hn 38 (of_decide_eq_true (by kernel_rfl))) rfl)
  obtain ⟨A4, n4, c4, a4, b4⟩ := (holds_line (hn 44 (of_decide_eq_true (by kernel_rfl))) rfl)
  obtain ⟨A5, n5, c5, a5, b5⟩ := (holds_line (hn 50 (of_decide_eq_true (by kernel_rfl))) rfl)
  obtain ⟨A6, n6, c6, a6, b6⟩ := (holds_line (hn 60 (of_decide_eq_true (by kernel_rfl))) rfl)
  obtain ⟨A7, n7, c7, a7, b7⟩ := (holds_line (hn 63 (of_decide_eq_true (by kernel_rfl))) rfl)
  obtain ⟨A8, n8, c8, a8, b8⟩ := (holds_line (hn 69 (of_decide_eq_true (by kernel_rfl))) rfl)
  obtain ⟨A9, n9, c9, a9, b9⟩ := (holds_line (hn 75 (of_decide_eq_true (by kernel_rfl))) rfl)
  obtain ⟨A10, n10, c10, a10, b10⟩ := (holds_line (hn 81 (of_decide_eq_true (by kernel_rfl))) rfl)
  obtain ⟨A11, n11, c11, a11, b11⟩ := (holds_line (hn 87 (of_decide_eq_true (by kernel_rfl))) rfl)
  exact k_rows e.1 e.2 rfl hG.size hG.bel a0 b0 a1 b1 a2 b2 a3 b3 a4 b4 a5 b5 a6 b6 a7 b7 a8 b8 a9 b9 a10 b10 a11 b11
theorem tx_72 (hR : ∀ x ∈ rulInts r, 0 ≤ x ∧ x ≤ 10000) {o : Oper} (ho : txOps[72]? = some o) (a : Act) (w : World) (hG : TxG w0 g r pv w) (hn : ∀ x ∈ txNeeds.getD 72 [], Holds (tabK w0.heap.size w0 (txKinds r g)) a w x) : Meets Tryz.prog (tabK w0.heap.size w0 (txKinds r g)) o a w := by
  have e := op_of (show (txOps[72]?).map (fun o => (o.op, o.dst)) = some (.assign (.tmp 88), some 7) by kernel_rfl) ho
  obtain ⟨v, h1, h2⟩ := (holds_rows (hn 88 (of_decide_eq_true (by kernel_rfl))) rfl)
  exact meets_move (.inr e.1) (tab_o e.2 rfl (by rw [eval_tmp h1]; exact h2))
theorem tx_free (hR : ∀ x ∈ rulInts r, 0 ≤ x ∧ x ≤ 10000) : FreeR Tryz.prog txOps (tabK w0.heap.size w0 (txKinds r g)) (TxG w0 g r pv) (fun i => txNeeds.getD i []) [1, 5, 6] 116 where
  back := back_of (by kernel_rfl)
  dst := dst_of (by kernel_rfl)
  need := need_of (by kernel_rfl)
  sV := tab_below
  sG := fun w w' h hb => h.below hb
  step := fun i o ho a w hG hn => by
    have hlt : i < 73 := (Array.getElem?_eq_some_iff.1 ho).1
    match i, hlt with
    | 0, _ => exact tx_0 hR ho a w hG hn
    | 1, _ => exact tx_1 hR ho a w hG hn
    | 2, _ => exact tx_2 hR ho a w hG hn
    | 3, _ => exact tx_3 hR ho a w hG hn
    | 4, _ => exact tx_4 hR ho a w hG hn
    | 5, _ => exact tx_5 hR ho a w hG hn
    | 6, _ => exact tx_6 hR ho a w hG hn
    | 7, _ => exact tx_7 hR ho a w hG hn
    | 8, _ => exact tx_8 hR ho a w hG hn
    | 9, _ => exact tx_9 hR ho a w hG hn
    | 10, _ => exact tx_10 hR ho a w hG hn
    | 11, _ => exact tx_11 hR ho a w hG hn
    | 12, _ => exact tx_12 hR ho a w hG hn
    | 13, _ => exact tx_13 hR ho a w hG hn
    | 14, _ => exact tx_14 hR ho a w hG hn
    | 15, _ => exact tx_15 hR ho a w hG hn
    | 16, _ => exact tx_16 hR ho a w hG hn
    | 17, _ => exact tx_17 hR ho a w hG hn
    | 18, _ => exact tx_18 hR ho a w hG hn
    | 19, _ => exact tx_19 hR ho a w hG hn
    | 20, _ => exact tx_20 hR ho a w hG hn
    | 21, _ => exact tx_21 hR ho a w hG hn
    | 22, _ => exact tx_22 hR ho a w hG hn
    | 23, _ => exact tx_23 hR ho a w hG hn
    | 24, _ => exact tx_24 hR ho a w hG hn
    | 25, _ => exact tx_25 hR ho a w hG hn
    | 26, _ => exact tx_26 hR ho a w hG hn
    | 27, _ => exact tx_27 hR ho a w hG hn
    | 28, _ => exact tx_28 hR ho a w hG hn
    | 29, _ => exact tx_29 hR ho a w hG hn
    | 30, _ => exact tx_30 hR ho a w hG hn
    | 31, _ => exact tx_31 hR ho a w hG hn
    | 32, _ => exact tx_32 hR ho a w hG hn
    | 33, _ => exact tx_33 hR ho a w hG hn
    | 34, _ => exact tx_34 hR ho a w hG hn
    | 35, _ => exact tx_35 hR ho a w hG hn
    | 36, _ => exact tx_36 hR ho a w hG hn
    | 37, _ => exact tx_37 hR ho a w hG hn
    | 38, _ => exact tx_38 hR ho a w hG hn
    | 39, _ => exact tx_39 hR ho a w hG hn
    | 40, _ => exact tx_40 hR ho a w hG hn
    | 41, _ => exact tx_41 hR ho a w hG hn
    | 42, _ => exact tx_42 hR ho a w hG hn
    | 43, _ => exact tx_43 hR ho a w hG hn
    | 44, _ => exact tx_44 hR ho a w hG hn
    | 45, _ => exact tx_45 hR ho a w hG hn
    | 46, _ => exact tx_46 hR ho a w hG hn
    | 47, _ => exact tx_47 hR ho a w hG hn
    | 48, _ => exact tx_48 hR ho a w hG hn
    | 49, _ => exact tx_49 hR ho a w hG hn
    | 50, _ => exact tx_50 hR ho a w hG hn
    | 51, _ => exact tx_51 hR ho a w hG hn
    | 52, _ => exact tx_52 hR ho a w hG hn
    | 53, _ => exact tx_53 hR ho a w hG hn
    | 54, _ => exact tx_54 hR ho a w hG hn
    | 55, _ => exact tx_55 hR ho a w hG hn
    | 56, _ => exact tx_56 hR ho a w hG hn
    | 57, _ => exact tx_57 hR ho a w hG hn
    | 58, _ => exact tx_58 hR ho a w hG hn
    | 59, _ => exact tx_59 hR ho a w hG hn
    | 60, _ => exact tx_60 hR ho a w hG hn
    | 61, _ => exact tx_61 hR ho a w hG hn
    | 62, _ => exact tx_62 hR ho a w hG hn
    | 63, _ => exact tx_63 hR ho a w hG hn
    | 64, _ => exact tx_64 hR ho a w hG hn
    | 65, _ => exact tx_65 hR ho a w hG hn
    | 66, _ => exact tx_66 hR ho a w hG hn
    | 67, _ => exact tx_67 hR ho a w hG hn
    | 68, _ => exact tx_68 hR ho a w hG hn
    | 69, _ => exact tx_69 hR ho a w hG hn
    | 70, _ => exact tx_70 hR ho a w hG hn
    | 71, _ => exact tx_71 hR ho a w hG hn
    | 72, _ => exact tx_72 hR ho a w hG hn
end
end Go.Proofs.YtnacklbaphobbaaGreatDoor
