/- Lines that came in, with the bulk of what was read; the length of the text that they make. -/
import Derived.Test.YtdgejeiiiholnaaGreatDoorW3
import Derived.Test.YtdgejeiiiholnaaGreatDoorT7
import Derived.Test.YtdgejeiiiholnaaGreatDoorRows
import Derived.Deep.Slices
set_option linter.unusedSimpArgs false
set_option linter.unusedVariables false
namespace Go.Proofs.YtdgejeiiiholnaaGreatDoor
open Go.ChangeShapes Go.WideShapes Go.ChangeAt Go.RowKit

def bulkF (f : Fld) : Nat := f.text.length + 1
def bulkL (x : Lin) : Nat := (x.fields.map bulkF).sum + 1
theorem lineW_bulk : ∀ (fs : List Fld) (first : Bool), (lineW fs first).length ≤ 3 * (fs.map bulkF).sum := by
  intro fs
  induction fs with
  | nil => intro _; simp [lineW]
  | cons f fs ih =>
    intro first
    have h1 := ih false
    have h2 : (fieldW f).length ≤ 2 * f.text.length + 2 := by
      unfold fieldW; split
      · exact quoteS_le _
      · omega
    have h3 : (if first then ([] : List UInt8) else [32]).length ≤ 1 := by split <;> simp
    rw [lineW, List.length_append, List.length_append, List.map_cons, List.sum_cons]
    have h4 : bulkF f = f.text.length + 1 := rfl
    omega
theorem writeS_bulk : ∀ ls : List Lin, (writeS ls).length ≤ 3 * (ls.map bulkL).sum := by
  intro ls
  induction ls with
  | nil => simp [writeS]
  | cons x ls ih =>
    have h1 := lineW_bulk x.fields true
    have h2 : (endW x.fields).length ≤ 1 := by unfold endW; split <;> simp
    rw [writeS, List.length_append, List.length_append, List.map_cons, List.sum_cons]
    have h3 : bulkL x = (x.fields.map bulkF).sum + 1 := rfl
    omega

section
variable {H : Type} {enc : TypeId × Value → H} {W : World}
theorem sum_bulk {α : Type} {bulk : α → Nat} {f : Nat → α} {D : Nat → DataW H} : ∀ is : List Nat, (∀ i ∈ is, bulk (f i) ≤ Rows.uptoBulk (D i)) → ((is.map f).map bulk).sum ≤ Rows.uptoBulkAll (is.map D) := by
  intro is
  induction is with
  | nil => intro _; simp
  | cons i is ih =>
    intro h
    have h1 := h i (List.mem_cons_self ..)
    have h2 := ih fun j hj => h j (List.mem_cons_of_mem _ hj)
    simp only [List.map_cons, List.sum_cons, Rows.uptoBulkAll]
    omega
/-- A slice that came in, nil or not, and its bulk. -/
theorem sl_gen {α : Type} [Inhabited α] {el : World → (Nat → Prop) → List Value → α → Prop} {size : Nat} {t e : TypeId} {held : Bool} (bulk : α → Nat)
    (ht : Tryz.prog.underlying t = some (.slice e)) (hc : Tryz.prog.cellsOf e = size) (hz : 0 < size)
    (one : ∀ {fuel : Nat} {cs : List Value} {x : DataW H × List MemPlace}, DataW.trod enc Tryz.prog W 0 (fun _ => true) held fuel e cs = some x → ∃ a, el W (· < W.heap.size) cs a ∧ bulk a ≤ Rows.uptoBulk x.1)
    {fuel : Nat} {cs : List Value} {x : DataW H × List MemPlace} (hf : DataW.trod enc Tryz.prog W 0 (fun _ => true) held fuel t cs = some x) :
    ∃ v l, cs = [v] ∧ Sl size el W (· < W.heap.size) v l ∧ (l.map bulk).sum + 1 ≤ Rows.uptoBulk x.1 := by
  rcases Go.Deep.open_slice ht hf with ⟨rfl, rfl⟩ | ⟨a, len, cap, m, n, D, Pl, rfl, _, hl, hm, hmm, rfl, hi⟩
  · exact ⟨_, [], rfl, Sl.nil _ _, by simp [Rows.uptoBulk]⟩
  · simp only [if_true] at hmm
    subst hmm
    rw [hc] at hi
    have key : ∀ i, i < m → ∃ (p : α) (cs' : List Value), W.cells? 0 (a.add (i * size)) size = some cs' ∧ el W (· < W.heap.size) cs' p ∧ bulk p ≤ Rows.uptoBulk (D i) := fun i him => by
      obtain ⟨cs', hc', ht'⟩ := hi i him
      obtain ⟨p, hp, hb⟩ := one ht'
      exact ⟨p, cs', hc', hp, hb⟩
    obtain ⟨f, hfx⟩ : ∃ f : Nat → α, ∀ i, i < m → ∃ cs' : List Value, W.cells? 0 (a.add (i * size)) size = some cs' ∧ el W (· < W.heap.size) cs' (f i) ∧ bulk (f i) ≤ Rows.uptoBulk (D i) :=
      ⟨fun i => if h : i < m then (key i h).choose else default, fun i h => by
        have := (key i h).choose_spec
        simp only [dif_pos h]
        exact this⟩
    refine ⟨_, (List.range len).map f, rfl, ⟨some a, m, by simp, by simpa using hl, hm, fun h0 => ?_⟩, ?_⟩
    · have h0' : 0 < len := by simpa using h0
      obtain ⟨b, off, spot⟩ := a
      obtain ⟨c0, hc0, _, _⟩ := hfx 0 (by omega)
      obtain ⟨_, hlen0, hat0⟩ := World.cells?_some hc0
      obtain ⟨u0, hu0⟩ : ∃ u, c0[0]? = some u := by
        rw [List.getElem?_eq_getElem (show 0 < c0.length by omega)]; exact ⟨_, rfl⟩
      have h00 := (hat0 0 (by omega)).trans hu0
      have hspot : spot = none := by simpa [Addr.add] using World.cell?_spot h00
      subst hspot
      have hbl := World.block_lt_of_cell? W _ h00
      refine ⟨b, off, rfl, by simpa [Addr.add] using hbl, fun i y hiy => ?_⟩
      rw [List.getElem?_map] at hiy
      obtain ⟨j, hj, rfl⟩ := Option.map_eq_some_iff.1 hiy
      have hil : i < len := by have := (List.getElem?_eq_some_iff.1 hj).1; simpa using this
      have hji : j = i := by rw [List.getElem?_range hil] at hj; exact (Option.some.inj hj).symm
      subst hji
      obtain ⟨cj, hcj, hel, _⟩ := hfx j (by omega)
      obtain ⟨_, hlenj, hatj⟩ := World.cells?_some hcj
      refine ⟨cj, hlenj, fun t u htu => ?_, hel⟩
      have htl : t < cj.length := (List.getElem?_eq_some_iff.1 htu).1
      have := hatj t (by omega)
      rw [Go.WideShapes.add_plain, Go.WideShapes.add_plain] at this
      rw [this, htu]
    · have := sum_bulk (bulk := bulk) (f := f) (D := D) (List.range len) fun i hi => by
        obtain ⟨_, _, _, h⟩ := hfx i (by have := List.mem_range.1 hi; omega)
        exact h
      simp only [Rows.uptoBulk]
      omega

theorem cellsFld : Tryz.prog.cellsOf 33 = 3 := by kernel_rfl
theorem cellsLin : Tryz.prog.cellsOf 36 = 2 := by kernel_rfl
theorem cellsInt' : Tryz.prog.cellsOf 3 = 1 := by kernel_rfl
theorem cellsBool' : Tryz.prog.cellsOf 4 = 1 := by kernel_rfl
theorem cellsStr' : Tryz.prog.cellsOf 9 = 1 := by kernel_rfl
theorem cellsFlds : Tryz.prog.cellsOf 34 = 1 := by kernel_rfl
instance : Inhabited Fld := ⟨⟨[], 0, false⟩⟩
instance : Inhabited Lin := ⟨⟨0, []⟩⟩
theorem S_bytes (s : ByteArray) : S s.data.toList = s := by cases s; simp [S]
set_option maxRecDepth 100000 in
theorem fld_one {F : Nat → Prop} {fuel : Nat} {held : Bool} {cs : List Value} {x : DataW H × List MemPlace} (h : DataW.trod enc Tryz.prog W 0 (fun _ => true) held fuel 33 cs = some x) :
    ∃ f : Fld, elFld W F cs f ∧ bulkF f ≤ Rows.uptoBulk x.1 := by
  obtain ⟨ys, n, _, rfl, hc, hl, hf⟩ := DataW.trod_struct Tryz.underlying33 h
  rw [cellsFld] at hc
  match cs, hc with
  | [u0, u1, u2], _ =>
    match ys, hl with
    | [z0, z1, z2], _ =>
      have k0 := hf 0 _ rfl
      have k1 := hf 1 _ rfl
      have k2 := hf 2 _ rfl
      obtain ⟨s, e0, rfl, _⟩ := DataW.trod_string Tryz.underlying9 k0
      obtain ⟨a1, e1, _, _⟩ := DataW.trod_int Tryz.underlying3 k1
      obtain ⟨a2, e2, _⟩ := DataW.trod_bool Tryz.underlying4 k2
      have g0 : u0 = .string s := by simpa [Value.cells, cellsInt', cellsStr', cellsBool'] using e0
      have g1 : u1 = .int .i64 a1 := by simpa [Value.cells, cellsInt', cellsStr', cellsBool'] using e1
      have g2 : u2 = .bool a2 := by simpa [Value.cells, cellsInt', cellsStr', cellsBool'] using e2
      refine ⟨⟨s.data.toList, a1, a2⟩, ?_, ?_⟩
      · show [u0, u1, u2] = _
        rw [g0, g1, g2, S_bytes]
      · show s.data.toList.length + 1 ≤ _
        simp only [List.map_cons, List.map_nil, Rows.uptoBulk, Rows.uptoBulkAll]
        omega
set_option maxRecDepth 100000 in
theorem lin_one {fuel : Nat} {held : Bool} {cs : List Value} {x : DataW H × List MemPlace} (h : DataW.trod enc Tryz.prog W 0 (fun _ => true) held fuel 36 cs = some x) :
    ∃ f : Lin, elLin W (· < W.heap.size) cs f ∧ bulkL f ≤ Rows.uptoBulk x.1 := by
  obtain ⟨ys, n, _, rfl, hc, hl, hf⟩ := DataW.trod_struct Tryz.underlying36 h
  rw [cellsLin] at hc
  match cs, hc with
  | [u0, u1], _ =>
    match ys, hl with
    | [z0, z1], _ =>
      have k0 := hf 0 _ rfl
      have k1 := hf 1 _ rfl
      obtain ⟨a0, e0, _, _⟩ := DataW.trod_int Tryz.underlying3 k0
      obtain ⟨v, l, e1, hsl, hb⟩ := sl_gen (size := 3) (el := elFld) bulkF Tryz.underlying34 cellsFld (by decide) (fun h => fld_one h) k1
      have g0 : u0 = .int .i64 a0 := by simpa [Value.cells, cellsInt', cellsFlds] using e0
      have g1 : u1 = v := by simpa [Value.cells, cellsInt', cellsFlds] using e1
      refine ⟨⟨a0, l⟩, ⟨v, by rw [g0, g1], hsl⟩, ?_⟩
      show (l.map bulkF).sum + 1 ≤ _
      simp only [List.map_cons, List.map_nil, Rows.uptoBulk, Rows.uptoBulkAll]
      omega
set_option maxRecDepth 100000 in
/-- Lines that came in. -/
theorem open_lines {r : Reach} {b0 : Nat} {v : Value} {d : DataW H} {p : List MemPlace} (hv : Value.okWide Tryz.prog W r b0 24 v) (h : DataW.Trod enc Tryz.prog W 0 (fun _ => true) true 24 v d p) :
    ∃ ls, Sl 2 elLin W (· < W.heap.size) v ls ∧ (ls.map bulkL).sum + 1 ≤ Rows.uptoBulk d := by
  obtain ⟨a, len, cap, rfl⟩ := okWide_slice Tryz.underlying24 hv
  obtain ⟨fuel, hf⟩ := h
  obtain ⟨v, l, e1, hsl, hb⟩ := sl_gen (size := 2) (el := elLin) bulkL Tryz.underlying24 cellsLin (by decide) (fun h => lin_one h) hf
  have g1 : v = .slice a len cap := by simp [Value.cells] at e1; exact e1.symm
  rw [← g1]
  exact ⟨l, hsl, hb⟩
end
end Go.Proofs.YtdgejeiiiholnaaGreatDoor
