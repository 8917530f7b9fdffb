/- Rules that came in: their fields, and the list of their powerplays. -/
import Derived.Test.YtnacklbaphobbaaGreatDoorWB
import Derived.Test.YtnacklbaphobbaaGreatDoorU1
import Derived.Deep.Slices
set_option linter.unusedSimpArgs false
set_option linter.unusedVariables false
namespace Go.Proofs.YtnacklbaphobbaaGreatDoor
open Go.ChangeShapes Go.WideShapes Go.ChangeAt Go.RowKit

theorem cellsRul : Tryz.prog.cellsOf 24 = 14 := by kernel_rfl
theorem cellsInt : Tryz.prog.cellsOf 3 = 1 := by kernel_rfl
theorem cellsBool : Tryz.prog.cellsOf 4 = 1 := by kernel_rfl
theorem cellsPhas : Tryz.prog.cellsOf 22 = 1 := by kernel_rfl
theorem cellsPha : Tryz.prog.cellsOf 45 = 3 := by kernel_rfl
section
variable {H : Type} {enc : TypeId × Value → H} {W : World}
set_option maxRecDepth 100000 in
theorem pha_cells {fuel : Nat} {held : Bool} {cs : List Value} {x : DataW H × List MemPlace} (h : DataW.trod enc Tryz.prog W 0 (fun _ => true) held fuel 45 cs = some x) :
    ∃ p : Pha, cs = [.int .i64 p.fr, .int .i64 p.til, .int .i64 p.out] := by
  obtain ⟨ys, n, rfl, _, hc, hl, hf⟩ := DataW.trod_struct Tryz.underlying45 h
  rw [cellsPha] at hc
  match cs, hc with
  | [u0, u1, u2], _ =>
    match ys, hl with
    | [z0, z1, z2], _ =>
      have k0 := hf 0 _ rfl
      have k1 := hf 1 _ rfl
      have k2 := hf 2 _ rfl
      obtain ⟨a0, e0, _, _⟩ := DataW.trod_int Tryz.underlying3 k0
      obtain ⟨a1, e1, _, _⟩ := DataW.trod_int Tryz.underlying3 k1
      obtain ⟨a2, e2, _, _⟩ := DataW.trod_int Tryz.underlying3 k2
      have g0 : u0 = .int .i64 a0 := by simpa [Value.cells, cellsInt, cellsStr, cellsBool, cellsPhas] using e0
      have g1 : u1 = .int .i64 a1 := by simpa [Value.cells, cellsInt, cellsStr, cellsBool, cellsPhas] using e1
      have g2 : u2 = .int .i64 a2 := by simpa [Value.cells, cellsInt, cellsStr, cellsBool, cellsPhas] using e2
      exact ⟨⟨a0, a1, a2⟩, by rw [g0, g1, g2]⟩
/-- A list of powerplays that came in, nil or not. -/
theorem sl_of_phas {fuel : Nat} {held : Bool} {cs : List Value} {x : DataW H × List MemPlace} (hf : DataW.trod enc Tryz.prog W 0 (fun _ => true) held fuel 22 cs = some x) :
    ∃ v l, cs = [v] ∧ Sl 3 elPha W (· < W.heap.size) v l := by
  rcases Go.Deep.open_slice Tryz.underlying22 hf with ⟨rfl, _⟩ | ⟨a, len, cap, m, n, D, Pl, rfl, _, hl, hm, hmm, _, hi⟩
  · exact ⟨_, [], rfl, Sl.nil _ _⟩
  · simp only [if_true] at hmm
    subst hmm
    rw [cellsPha] at hi
    have key : ∀ i, i < m → ∃ p : Pha, W.cell? (a.add (i * 3)) = some (.int .i64 p.fr) ∧ W.cell? ((a.add (i * 3)).add 1) = some (.int .i64 p.til) ∧ W.cell? ((a.add (i * 3)).add 2) = some (.int .i64 p.out) := fun i him => by
      obtain ⟨cs', hc, ht⟩ := hi i him
      obtain ⟨p, rfl⟩ := pha_cells ht
      obtain ⟨_, hcl, hat⟩ := World.cells?_some hc
      have a0 := hat 0 (by omega)
      have a1 := hat 1 (by omega)
      have a2 := hat 2 (by omega)
      have ha : (a.add (i * 3)).add 0 = a.add (i * 3) := by simp [Addr.add]
      rw [ha] at a0
      exact ⟨p, a0, a1, a2⟩
    have hz : ∃ f : Nat → Pha, ∀ i, i < m → W.cell? (a.add (i * 3)) = some (.int .i64 (f i).fr) ∧ W.cell? ((a.add (i * 3)).add 1) = some (.int .i64 (f i).til) ∧ W.cell? ((a.add (i * 3)).add 2) = some (.int .i64 (f i).out) :=
      ⟨fun i => if h : i < m then (key i h).choose else ⟨0, 0, 0⟩, fun i h => by
        have := (key i h).choose_spec
        simp only [dif_pos h]
        exact this⟩
    obtain ⟨f, hfx⟩ := hz
    refine ⟨_, (List.range len).map f, rfl, some a, m, by simp, by simpa using hl, hm, fun h0 => ?_⟩
    have h0' : 0 < len := by simpa using h0
    obtain ⟨b, off, spot⟩ := a
    have h00 := (hfx 0 (by omega)).1
    have hspot : spot = none := by simpa [Addr.add] using World.cell?_spot h00
    subst hspot
    have hbl := World.block_lt_of_cell? W _ h00
    refine ⟨b, off, rfl, by simpa [Addr.add] using hbl, fun i y hiy => ?_⟩
    rw [List.getElem?_map] at hiy
    obtain ⟨j, hj, rfl⟩ := Option.map_eq_some_iff.1 hiy
    have hil : i < len := by have := (List.getElem?_eq_some_iff.1 hj).1; simpa using this
    have hji : j = i := by rw [List.getElem?_range hil] at hj; exact (Option.some.inj hj).symm
    subst hji
    obtain ⟨q0, q1, q2⟩ := hfx j (by omega)
    rw [Go.WideShapes.add_plain] at q0
    rw [Go.WideShapes.add_plain, Go.WideShapes.add_plain] at q1 q2
    refine ⟨_, rfl, fun t u ht => ?_, rfl⟩
    match t, ht with
    | 0, ht => simp at ht; subst ht; rw [Nat.add_zero]; exact q0
    | 1, ht => simp at ht; subst ht; exact q1
    | 2, ht => simp at ht; subst ht; exact q2
set_option maxRecDepth 100000 in
/-- Rules that came in. -/
theorem open_rules {r : Reach} {b0 : Nat} {v : Value} {d : DataW H} {p : List MemPlace} (hv : Value.okWide Tryz.prog W r b0 24 v) (h : DataW.Trod enc Tryz.prog W 0 (fun _ => true) true 24 v d p) :
    ∃ q pv, v = rulV q pv ∧ Sl 3 elPha W (· < W.heap.size) pv q.power := by
  obtain ⟨cs, rfl, hsz⟩ := okWide_struct Tryz.underlying24 hv
  obtain ⟨l⟩ := cs
  match l, hsz.trans cellsRul with
  | [c0, c1, c2, c3, c4, c5, c6, c7, c8, c9, c10, c11, c12, c13], _ =>
    obtain ⟨fuel, hf⟩ := h
    obtain ⟨xs, n, _, hx, _, hlen, hg⟩ := DataW.trod_struct Tryz.underlying24 hf
    match xs, hlen with
    | [y0, y1, y2, y3, y4, y5, y6, y7, y8, y9, y10, y11, y12, y13], _ =>
      have k0 := hg 0 _ rfl
      have k1 := hg 1 _ rfl
      have k2 := hg 2 _ rfl
      have k3 := hg 3 _ rfl
      have k4 := hg 4 _ rfl
      have k5 := hg 5 _ rfl
      have k6 := hg 6 _ rfl
      have k7 := hg 7 _ rfl
      have k8 := hg 8 _ rfl
      have k9 := hg 9 _ rfl
      have k10 := hg 10 _ rfl
      have k11 := hg 11 _ rfl
      have k12 := hg 12 _ rfl
      have k13 := hg 13 _ rfl
      obtain ⟨s, e0, _, _⟩ := DataW.trod_string Tryz.underlying9 k0
      have g0 : c0 = .string s := by simpa [Value.cells, cellsInt, cellsStr, cellsBool, cellsPhas] using e0
      obtain ⟨a1, e1, _, _⟩ := DataW.trod_int Tryz.underlying3 k1
      have g1 : c1 = .int .i64 a1 := by simpa [Value.cells, cellsInt, cellsStr, cellsBool, cellsPhas] using e1
      obtain ⟨a2, e2, _, _⟩ := DataW.trod_int Tryz.underlying3 k2
      have g2 : c2 = .int .i64 a2 := by simpa [Value.cells, cellsInt, cellsStr, cellsBool, cellsPhas] using e2
      obtain ⟨a3, e3, _, _⟩ := DataW.trod_int Tryz.underlying3 k3
      have g3 : c3 = .int .i64 a3 := by simpa [Value.cells, cellsInt, cellsStr, cellsBool, cellsPhas] using e3
      obtain ⟨a4, e4, _, _⟩ := DataW.trod_int Tryz.underlying3 k4
      have g4 : c4 = .int .i64 a4 := by simpa [Value.cells, cellsInt, cellsStr, cellsBool, cellsPhas] using e4
      obtain ⟨a5, e5, _, _⟩ := DataW.trod_int Tryz.underlying3 k5
      have g5 : c5 = .int .i64 a5 := by simpa [Value.cells, cellsInt, cellsStr, cellsBool, cellsPhas] using e5
      obtain ⟨a6, e6, _, _⟩ := DataW.trod_int Tryz.underlying3 k6
      have g6 : c6 = .int .i64 a6 := by simpa [Value.cells, cellsInt, cellsStr, cellsBool, cellsPhas] using e6
      obtain ⟨a7, e7, _, _⟩ := DataW.trod_int Tryz.underlying3 k7
      have g7 : c7 = .int .i64 a7 := by simpa [Value.cells, cellsInt, cellsStr, cellsBool, cellsPhas] using e7
      obtain ⟨b, e8, _⟩ := DataW.trod_bool Tryz.underlying4 k8
      have g8 : c8 = .bool b := by simpa [Value.cells, cellsInt, cellsStr, cellsBool, cellsPhas] using e8
      obtain ⟨a9, e9, _, _⟩ := DataW.trod_int Tryz.underlying3 k9
      have g9 : c9 = .int .i64 a9 := by simpa [Value.cells, cellsInt, cellsStr, cellsBool, cellsPhas] using e9
      obtain ⟨a10, e10, _, _⟩ := DataW.trod_int Tryz.underlying3 k10
      have g10 : c10 = .int .i64 a10 := by simpa [Value.cells, cellsInt, cellsStr, cellsBool, cellsPhas] using e10
      obtain ⟨a11, e11, _, _⟩ := DataW.trod_int Tryz.underlying3 k11
      have g11 : c11 = .int .i64 a11 := by simpa [Value.cells, cellsInt, cellsStr, cellsBool, cellsPhas] using e11
      obtain ⟨a12, e12, _, _⟩ := DataW.trod_int Tryz.underlying3 k12
      have g12 : c12 = .int .i64 a12 := by simpa [Value.cells, cellsInt, cellsStr, cellsBool, cellsPhas] using e12
      obtain ⟨v13, l, e13, hl⟩ := sl_of_phas k13
      have g13 : c13 = v13 := by simpa [Value.cells, cellsInt, cellsStr, cellsBool, cellsPhas] using e13
      subst g0 g1 g2 g3 g4 g5 g6 g7 g8 g9 g10 g11 g12 g13
      exact ⟨⟨s.data.toList, a1, a2, a3, a4, a5, a6, a7, b, a9, a10, a11, a12, l⟩, _, rfl, hl⟩
end
end Go.Proofs.YtnacklbaphobbaaGreatDoor
