/- Spreads and lists of outcomes that came in. -/
import Derived.Test.YtfnfbojaiikigaaGreatDoorW3
import Derived.Test.YtfnfbojaiikigaaGreatDoorH4
import Derived.Deep.Slices
set_option linter.unusedSimpArgs false
set_option linter.unusedVariables false
namespace Go.Proofs.YtfnfbojaiikigaaGreatDoor
open Go.ChangeShapes Go.WideShapes Go.ChangeAt Go.RowKit

theorem cellsOtc : Tryz.prog.cellsOf 46 = 3 := by kernel_rfl
theorem cellsI' : Tryz.prog.cellsOf 3 = 1 := by kernel_rfl
theorem cellsI6' : Tryz.prog.cellsOf 2 = 1 := by kernel_rfl
theorem cellsB' : Tryz.prog.cellsOf 4 = 1 := by kernel_rfl
theorem cellsInts : Tryz.prog.cellsOf 127 = 1 := by kernel_rfl
section
variable {H : Type} {enc : TypeId × Value → H} {W : World}
/-- A slice that came in, nil or not. -/
theorem sl_raw {α : Type} [Inhabited α] {el : World → (Nat → Prop) → List Value → α → Prop} {size : Nat} {t e : TypeId} {held : Bool}
    (ht : Tryz.prog.underlying t = some (.slice e)) (hc : Tryz.prog.cellsOf e = size) (hz : 0 < size)
    (one : ∀ {fuel : Nat} {cs : List Value} {x : DataW H × List MemPlace}, DataW.trod enc Tryz.prog W 0 (fun _ => true) held fuel e cs = some x → ∃ a, el W (· < W.heap.size) cs a)
    {fuel : Nat} {cs : List Value} {x : DataW H × List MemPlace} (hf : DataW.trod enc Tryz.prog W 0 (fun _ => true) held fuel t cs = some x) :
    ∃ v l, cs = [v] ∧ Sl size el W (· < W.heap.size) v l := by
  rcases Go.Deep.open_slice ht hf with ⟨rfl, rfl⟩ | ⟨a, len, cap, m, n, D, Pl, rfl, _, hl, hm, hmm, rfl, hi⟩
  · exact ⟨_, [], rfl, Sl.nil _ _⟩
  · simp only [if_true] at hmm
    subst hmm
    rw [hc] at hi
    have key : ∀ i, i < m → ∃ (p : α) (cs' : List Value), W.cells? 0 (a.add (i * size)) size = some cs' ∧ el W (· < W.heap.size) cs' p := fun i him => by
      obtain ⟨cs', hc', ht'⟩ := hi i him
      obtain ⟨p, hp⟩ := one ht'
      exact ⟨p, cs', hc', hp⟩
    obtain ⟨f, hfx⟩ : ∃ f : Nat → α, ∀ i, i < m → ∃ cs' : List Value, W.cells? 0 (a.add (i * size)) size = some cs' ∧ el W (· < W.heap.size) cs' (f i) :=
      ⟨fun i => if h : i < m then (key i h).choose else default, fun i h => by
        have := (key i h).choose_spec
        simp only [dif_pos h]
        exact this⟩
    refine ⟨_, (List.range len).map f, rfl, some a, m, by simp, by simpa using hl, hm, fun h0 => ?_⟩
    have h0' : 0 < len := by simpa using h0
    obtain ⟨b, off, spot⟩ := a
    obtain ⟨c0, hc0, _⟩ := hfx 0 (by omega)
    obtain ⟨_, hlen0, hat0⟩ := World.cells?_some hc0
    obtain ⟨u0, hu0⟩ : ∃ u, c0[0]? = some u := by
      rw [List.getElem?_eq_getElem (show 0 < c0.length by omega)]; exact ⟨_, rfl⟩
    have h00 := (hat0 0 (by omega)).trans hu0
    have hspot : spot = none := by simpa [Addr.add] using World.cell?_spot h00
    subst hspot
    have hbl := World.block_lt_of_cell? W _ h00
    refine ⟨b, off, rfl, by simpa [Addr.add] using hbl, fun i y hiy => ?_⟩
    rw [List.getElem?_map] at hiy
    obtain ⟨j, hj, rfl⟩ := Option.map_eq_some_iff.1 hiy
    have hil : i < len := by have := (List.getElem?_eq_some_iff.1 hj).1; simpa using this
    have hji : j = i := by rw [List.getElem?_range hil] at hj; exact (Option.some.inj hj).symm
    subst hji
    obtain ⟨cj, hcj, hel⟩ := hfx j (by omega)
    obtain ⟨_, hlenj, hatj⟩ := World.cells?_some hcj
    refine ⟨cj, hlenj, fun t u htu => ?_, hel⟩
    have htl : t < cj.length := (List.getElem?_eq_some_iff.1 htu).1
    have := hatj t (by omega)
    rw [Go.WideShapes.add_plain, Go.WideShapes.add_plain] at this
    rw [this, htu]
instance : Inhabited Otc := ⟨⟨0, false, 0⟩⟩
set_option maxRecDepth 100000 in
theorem otc_one {F : Nat → Prop} {fuel : Nat} {held : Bool} {cs : List Value} {x : DataW H × List MemPlace} (h : DataW.trod enc Tryz.prog W 0 (fun _ => true) held fuel 46 cs = some x) :
    ∃ f : Otc, elOtc W F cs f := by
  obtain ⟨ys, n, _, rfl, hc, hl, hf⟩ := DataW.trod_struct Tryz.underlying46 h
  rw [cellsOtc] at hc
  match cs, hc with
  | [u0, u1, u2], _ =>
    match ys, hl with
    | [z0, z1, z2], _ =>
      have k0 := hf 0 _ rfl
      have k1 := hf 1 _ rfl
      have k2 := hf 2 _ rfl
      obtain ⟨a0, e0, _, b0⟩ := DataW.trod_int Tryz.underlying3 k0
      obtain ⟨a1, e1, _⟩ := DataW.trod_bool Tryz.underlying4 k1
      obtain ⟨a2, e2, _, b2⟩ := DataW.trod_int Tryz.underlying2 k2
      have g0 : u0 = .int .i64 a0 := by simpa [Value.cells, cellsI', cellsB'] using e0
      have g1 : u1 = .bool a1 := by simpa [Value.cells, cellsI', cellsB'] using e1
      have g2 : u2 = .int .i64 a2 := by simpa [Value.cells, cellsI', cellsI6', cellsB'] using e2
      subst g0 g1 g2
      exact ⟨⟨a0, a1, a2⟩, rfl⟩
theorem int_one {F : Nat → Prop} {fuel : Nat} {held : Bool} {cs : List Value} {x : DataW H × List MemPlace} (h : DataW.trod enc Tryz.prog W 0 (fun _ => true) held fuel 2 cs = some x) :
    ∃ f : Int, elInt W F cs f := by
  obtain ⟨a0, e0, _, b0⟩ := DataW.trod_int Tryz.underlying2 h
  exact ⟨a0, e0⟩
set_option maxRecDepth 100000 in
/-- Outcomes that came in. -/
theorem open_otcs {r : Reach} {b0 : Nat} {v : Value} {d : DataW H} {p : List MemPlace} (hv : Value.okWide Tryz.prog W r b0 42 v) (h : DataW.Trod enc Tryz.prog W 0 (fun _ => true) true 42 v d p) :
    ∃ ls, Sl 3 elOtc W (· < W.heap.size) v ls := by
  obtain ⟨a, len, cap, rfl⟩ := okWide_slice Tryz.underlying42 hv
  obtain ⟨fuel, hf⟩ := h
  obtain ⟨v, l, e1, hsl⟩ := sl_raw (size := 3) (el := elOtc) Tryz.underlying42 cellsOtc (by decide) (fun h => otc_one h) hf
  have g1 : v = .slice a len cap := by simp [Value.cells] at e1; exact e1.symm
  rw [← g1]
  exact ⟨l, hsl⟩
end
end Go.Proofs.YtfnfbojaiikigaaGreatDoor
