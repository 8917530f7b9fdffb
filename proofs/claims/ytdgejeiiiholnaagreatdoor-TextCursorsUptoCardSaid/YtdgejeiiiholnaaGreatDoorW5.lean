/- A line and a list of calls that came in, with the bulk of what was read. -/
import Derived.Test.YtdgejeiiiholnaaGreatDoorW4
import Derived.Test.YtdgejeiiiholnaaGreatDoorM7
set_option linter.unusedSimpArgs false
set_option linter.unusedVariables false
namespace Go.Proofs.YtdgejeiiiholnaaGreatDoor
open Go.ChangeShapes Go.WideShapes Go.ChangeAt Go.RowKit

theorem cellsCll : Tryz.prog.cellsOf 45 = 4 := by kernel_rfl
theorem cellsU8' : Tryz.prog.cellsOf 5 = 1 := by kernel_rfl
theorem cellsI64' : Tryz.prog.cellsOf 2 = 1 := by kernel_rfl
instance : Inhabited Cll := ⟨⟨0, 0, 0, []⟩⟩
theorem flds_len (l : List Fld) : l.length ≤ (l.map bulkF).sum ∧ ∀ f ∈ l, f.text.length ≤ (l.map bulkF).sum := by
  induction l with
  | nil => exact ⟨Nat.zero_le _, fun f hf => by cases hf⟩
  | cons a l ih =>
    have e : bulkF a = a.text.length + 1 := rfl
    rw [List.map_cons, List.sum_cons, List.length_cons]
    refine ⟨by omega, fun f hf => ?_⟩
    rcases List.mem_cons.1 hf with rfl | hf
    · omega
    · have := ih.2 f hf; omega
section
variable {H : Type} {enc : TypeId × Value → H} {W : World}
set_option maxRecDepth 100000 in
theorem cll_one {F : Nat → Prop} {fuel : Nat} {held : Bool} {cs : List Value} {x : DataW H × List MemPlace} (h : DataW.trod enc Tryz.prog W 0 (fun _ => true) held fuel 45 cs = some x) :
    ∃ c : Cll, elCll W F cs c ∧ (fun _ : Cll => 0) c ≤ Rows.uptoBulk x.1 := by
  obtain ⟨ys, n, _, rfl, hc, hl, hf⟩ := DataW.trod_struct Tryz.underlying45 h
  rw [cellsCll] at hc
  match cs, hc with
  | [u0, u1, u2, u3], _ =>
    match ys, hl with
    | [z0, z1, z2, z3], _ =>
      have k0 := hf 0 _ rfl
      have k1 := hf 1 _ rfl
      have k2 := hf 2 _ rfl
      have k3 := hf 3 _ rfl
      obtain ⟨a0, e0, _, b0⟩ := DataW.trod_int Tryz.underlying5 k0
      obtain ⟨a1, e1, _, _⟩ := DataW.trod_int Tryz.underlying2 k1
      obtain ⟨a2, e2, _, _⟩ := DataW.trod_int Tryz.underlying2 k2
      obtain ⟨s, e3, _, _⟩ := DataW.trod_string Tryz.underlying9 k3
      have g0 : u0 = .int .u8 a0 := by simpa [Value.cells, cellsU8', cellsI64', cellsStr'] using e0
      have g1 : u1 = .int .i64 a1 := by simpa [Value.cells, cellsU8', cellsI64', cellsStr'] using e1
      have g2 : u2 = .int .i64 a2 := by simpa [Value.cells, cellsU8', cellsI64', cellsStr'] using e2
      have g3 : u3 = .string s := by simpa [Value.cells, cellsU8', cellsI64', cellsStr'] using e3
      have hb : 0 ≤ a0 ∧ a0 ≤ 255 := by have := bounds_u8 b0; omega
      exact ⟨⟨a0.toNat, a1, a2, s.data.toList⟩, ⟨by rw [g0, g1, g2, g3, S_bytes]; simp; omega, by show a0.toNat < 256; omega⟩, Nat.zero_le _⟩
set_option maxRecDepth 100000 in
theorem open_calls {r : Reach} {b0 : Nat} {v : Value} {d : DataW H} {p : List MemPlace} (hv : Value.okWide Tryz.prog W r b0 39 v) (h : DataW.Trod enc Tryz.prog W 0 (fun _ => true) true 39 v d p) :
    ∃ cl, Sl 4 elCll W (· < W.heap.size) v cl := by
  obtain ⟨a, len, cap, rfl⟩ := okWide_slice Tryz.underlying39 hv
  obtain ⟨fuel, hf⟩ := h
  obtain ⟨v, l, e1, hsl, hb⟩ := sl_gen (size := 4) (el := elCll) (fun _ => 0) Tryz.underlying39 cellsCll (by decide) (fun h => cll_one h) hf
  have g1 : v = .slice a len cap := by simp [Value.cells] at e1; exact e1.symm
  rw [← g1]
  exact ⟨l, hsl⟩
set_option maxRecDepth 100000 in
theorem open_line {r : Reach} {b0 : Nat} {v : Value} {d : DataW H} {p : List MemPlace} (hv : Value.okWide Tryz.prog W r b0 36 v) (h : DataW.Trod enc Tryz.prog W 0 (fun _ => true) true 36 v d p) :
    ∃ (x : Lin) (xv : Value), v = .agg #[.int .i64 x.num, xv] ∧ Sl 3 elFld W (· < W.heap.size) xv x.fields ∧ bulkL x ≤ Rows.uptoBulk d := by
  obtain ⟨cs, rfl, hsz⟩ := okWide_struct Tryz.underlying36 hv
  obtain ⟨fuel, hf⟩ := h
  obtain ⟨l⟩ := cs
  match l, hsz.trans cellsLin with
  | [c0, c1], _ =>
    obtain ⟨f, hel, hb⟩ := lin_one hf
    obtain ⟨vv, e, hs⟩ := hel
    simp [Value.cells] at e
    obtain ⟨rfl, rfl⟩ := e
    exact ⟨f, _, rfl, hs, hb⟩
end
end Go.Proofs.YtdgejeiiiholnaaGreatDoor
