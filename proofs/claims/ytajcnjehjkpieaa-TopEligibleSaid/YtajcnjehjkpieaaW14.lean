/- An office that came in (a register, a conduct book, windows, days); what a law of a seat without cards needs about its row. -/
import Derived.Test.YtajcnjehjkpieaaRows
import Derived.Test.YtajcnjehjkpieaaE1
import Derived.Test.YtajcnjehjkpieaaE7
import Derived.ProofKit
import Derived.OpenShut
import Derived.Carry
import Derived.ChangeSame
import Derived.SliceStrings
import Derived.Lib.SmallJoins
import Derived.Deep.DeepHandedRow
import Derived.Lib.LaidTab
import Derived.Deep.Slices
set_option linter.unusedSimpArgs false
set_option linter.unusedVariables false
namespace Go.Proofs.Ytajcnjehjkpieaa
open Go.ChangeShapes Go.WideShapes Go.ChangeAt Go.RowKit

theorem own : ownKnob Try.prog.godebug = none := by kernel_rfl
theorem laidOut : laidOutB Try.prog = true := by kernel_rfl
section
variable {H : Type} {enc : TypeId × Value → H} {P : Program}
/-- The row's last step where only what is new has turned. -/
theorem post_of_below {f : Func} {s : ChangeSpec} {apart fresh handsOn again : Bool} {W W' : World} {args : Array Value} {v : Value} {ds gs : List (DataW H)} {before pa pv : List MemPlace}
    (hW : DataW.Whole enc P f.params.toList s.vars apart W args.toList ds gs before)
    (hres : ∀ (b : Nat) (sp : Nat → Bool) (hd : Bool), DataW.TrodAll enc P W' b sp hd f.resultTypes.toList (v.resultList f.resultTypes.size) (s.fn H (ds ++ gs)).results [])
    (hargs : ∀ sp : Nat → Bool, (∀ p ∈ before, sp p.block = true) → DataW.TrodAll enc P W' 0 sp true f.params.toList args.toList (s.fn H (ds ++ gs)).args pa)
    (hvars : ∀ sp : Nat → Bool, (∀ p ∈ before, sp p.block = true) → DataW.TrodVars enc P W' sp s.vars (s.fn H (ds ++ gs)).vars pv)
    (hps : before = pa ++ pv) (hb : Below W.heap.size W W')
    (hok : ∀ (j : Nat) (t : TypeId) (r : Value), f.resultTypes[j]? = some t → (v.resultList f.resultTypes.size)[j]? = some r → Value.okWide P W' .any 0 t r) :
    s.post enc P f apart fresh handsOn again W args v W' := by
  have hlt : ∀ p ∈ before, p.block < W.heap.size := fun p hp => hW.lt p hp
  have hold : ∀ p ∈ before, (fun b => decide (b < W.heap.size)) p.block = true := fun p hp => by simpa using hlt p hp
  refine ⟨ds, gs, before, [], pa, pv, hW, hres _ _ _, hargs _ hold, hvars _ hold, World.keptBut_mono (fun p hp => ⟨hp, ?_⟩) (hb.frame (· ∈ before)), fun _ => ?_⟩
  · rw [hps, List.mem_append] at hp
    exact Or.inr hp
  · obtain ⟨_, _, _, _, _, hz, hn⟩ := hW
    refine ⟨hok, _, _, ([] ++ pa) ++ pv, ⟨[] ++ pa, pv, trodAll_append (hargs _ (fun _ _ => rfl)) (hres _ _ _), hvars _ (fun _ _ => rfl), rfl, ?_, ?_⟩, ?_⟩
    · intro b off hp
      have hin : MemPlace.cell b off ∈ before := by rw [hps]; simpa using hp
      rw [hb.frozen (hlt _ hin)]
      exact hz b off hin
    · intro ha
      have := hn ha
      rw [hps] at this
      simpa using this
    · intro p hp _
      rw [hps]
      simpa using hp
/-- An argument reads behind the call as it did. -/
theorem trod_again {t : TypeId} (hl : laidOutB P = true) (hr : P.readableRec t = true) (hrow : t < P.types.size) {W W' : World} {v : Value} {d : DataW H} {ps : List MemPlace}
    (h : DataW.Trod enc P W 0 (fun _ => true) true t v d ps) (hb : Below W.heap.size W W') (hlt : ∀ x ∈ ps, x.block < W.heap.size) {sp : Nat → Bool} (hsp : ∀ p ∈ ps, sp p.block = true) :
    DataW.Trod enc P W' 0 sp true t v d ps :=
  WideElems.Trod_stays hl hr hrow h (fun x hx => hb.same (hlt x hx)) hsp
end
noncomputable def laidWorld (os : Os) : World := World.holding Try.prog os ⟨#[], #[], []⟩
theorem cellsStrE : Try.prog.cellsOf 9 = 1 := by kernel_rfl
theorem cellsIntE : Try.prog.cellsOf 3 = 1 := by kernel_rfl
theorem cellsI64E : Try.prog.cellsOf 2 = 1 := by kernel_rfl
theorem cellsTraE : Try.prog.cellsOf 40 = 3 := by kernel_rfl
theorem cellsWinE : Try.prog.cellsOf 48 = 2 := by kernel_rfl
theorem cellsOffE : Try.prog.cellsOf 35 = 4 := by kernel_rfl
theorem cellsOfcE : Try.prog.cellsOf 27 = 4 := by kernel_rfl
theorem cellsWsE : Try.prog.cellsOf 22 = 1 := by kernel_rfl
theorem cellsTsE : Try.prog.cellsOf 23 = 1 := by kernel_rfl
theorem cellsOsE : Try.prog.cellsOf 24 = 1 := by kernel_rfl
theorem cellsMsE : Try.prog.cellsOf 25 = 1 := by kernel_rfl
instance : Inhabited Tra := ⟨⟨[], [], 0⟩⟩
instance : Inhabited Win := ⟨⟨0, 0⟩⟩
instance : Inhabited Off := ⟨⟨0, [], 0, 0⟩⟩
section
variable {H : Type} {enc : TypeId × Value → H} {W : World}
/-- A slice that came in, nil or not. -/
theorem sl_raw {α : Type} [Inhabited α] {el : World → (Nat → Prop) → List Value → α → Prop} {size : Nat} {t e : TypeId} {held : Bool}
    (ht : Try.prog.underlying t = some (.slice e)) (hc : Try.prog.cellsOf e = size) (hz : 0 < size)
    (one : ∀ {fuel : Nat} {cs : List Value} {x : DataW H × List MemPlace}, DataW.trod enc Try.prog W 0 (fun _ => true) held fuel e cs = some x → ∃ a, el W (· < W.heap.size) cs a)
    {fuel : Nat} {cs : List Value} {x : DataW H × List MemPlace} (hf : DataW.trod enc Try.prog W 0 (fun _ => true) held fuel t cs = some x) :
    ∃ v l, cs = [v] ∧ Sl size el W (· < W.heap.size) v l := by
  rcases Go.Deep.open_slice ht hf with ⟨rfl, rfl⟩ | ⟨a, len, cap, m, n, D, Pl, rfl, _, hl, hm, hmm, rfl, hi⟩
  · exact ⟨_, [], rfl, Sl.nil _ _⟩
  · simp only [if_true] at hmm
    subst hmm
    rw [hc] at hi
    have key : ∀ i, i < m → ∃ (p : α) (cs' : List Value), W.cells? 0 (a.add (i * size)) size = some cs' ∧ el W (· < W.heap.size) cs' p := fun i him => by
      obtain ⟨cs', hc', ht'⟩ := hi i him
      obtain ⟨p, hp⟩ := one ht'
      exact ⟨p, cs', hc', hp⟩
    obtain ⟨f, hfx⟩ : ∃ f : Nat → α, ∀ i, i < m → ∃ cs' : List Value, W.cells? 0 (a.add (i * size)) size = some cs' ∧ el W (· < W.heap.size) cs' (f i) :=
      ⟨fun i => if h : i < m then (key i h).choose else default, fun i h => by
        have := (key i h).choose_spec
        simp only [dif_pos h]
        exact this⟩
    refine ⟨_, (List.range len).map f, rfl, some a, m, by simp, by simpa using hl, hm, fun h0 => ?_⟩
    have h0' : 0 < len := by simpa using h0
    obtain ⟨b, off, spot⟩ := a
    obtain ⟨c0, hc0, _⟩ := hfx 0 (by omega)
    obtain ⟨_, hlen0, hat0⟩ := World.cells?_some hc0
    obtain ⟨u0, hu0⟩ : ∃ u, c0[0]? = some u := by
      rw [List.getElem?_eq_getElem (show 0 < c0.length by omega)]; exact ⟨_, rfl⟩
    have h00 := (hat0 0 (by omega)).trans hu0
    have hspot : spot = none := by simpa [Addr.add] using World.cell?_spot h00
    subst hspot
    have hbl := World.block_lt_of_cell? W _ h00
    refine ⟨b, off, rfl, by simpa [Addr.add] using hbl, fun i y hiy => ?_⟩
    rw [List.getElem?_map] at hiy
    obtain ⟨j, hj, rfl⟩ := Option.map_eq_some_iff.1 hiy
    have hil : i < len := by have := (List.getElem?_eq_some_iff.1 hj).1; simpa using this
    have hji : j = i := by rw [List.getElem?_range hil] at hj; exact (Option.some.inj hj).symm
    subst hji
    obtain ⟨cj, hcj, hel⟩ := hfx j (by omega)
    obtain ⟨_, hlenj, hatj⟩ := World.cells?_some hcj
    refine ⟨cj, hlenj, fun t u htu => ?_, hel⟩
    have htl : t < cj.length := (List.getElem?_eq_some_iff.1 htu).1
    have := hatj t (by omega)
    rw [Go.WideShapes.add_plain, Go.WideShapes.add_plain] at this
    rw [this, htu]
set_option maxRecDepth 100000 in
theorem tra_one {F : Nat → Prop} {fuel : Nat} {held : Bool} {cs : List Value} {x : DataW H × List MemPlace} (h : DataW.trod enc Try.prog W 0 (fun _ => true) held fuel 40 cs = some x) :
    ∃ f : Tra, elTra W F cs f := by
  obtain ⟨ys, n, _, rfl, hc, hl, hf⟩ := DataW.trod_struct Try.underlying40 h
  rw [cellsTraE] at hc
  match cs, hc with
  | [u0, u1, u2], _ =>
    match ys, hl with
    | [z0, z1, z2], _ =>
      obtain ⟨a0, e0, _, b0⟩ := DataW.trod_string Try.underlying9 (hf 0 _ rfl)
      have g0 : u0 = .string a0 := by simpa [Value.cells, cellsStrE, cellsIntE, cellsI64E] using e0
      obtain ⟨a1, e1, _, b1⟩ := DataW.trod_string Try.underlying9 (hf 1 _ rfl)
      have g1 : u1 = .string a1 := by simpa [Value.cells, cellsStrE, cellsIntE, cellsI64E] using e1
      obtain ⟨a2, e2, _, b2⟩ := DataW.trod_int Try.underlying2 (hf 2 _ rfl)
      have g2 : u2 = .int .i64 a2 := by simpa [Value.cells, cellsStrE, cellsIntE, cellsI64E] using e2
      subst g0 g1 g2
      exact ⟨⟨a0.data.toList, a1.data.toList, a2⟩, ⟨rfl, by simpa using b0, by simpa using b1⟩⟩
set_option maxRecDepth 100000 in
theorem win_one {F : Nat → Prop} {fuel : Nat} {held : Bool} {cs : List Value} {x : DataW H × List MemPlace} (h : DataW.trod enc Try.prog W 0 (fun _ => true) held fuel 48 cs = some x) :
    ∃ f : Win, elWin W F cs f := by
  obtain ⟨ys, n, _, rfl, hc, hl, hf⟩ := DataW.trod_struct Try.underlying48 h
  rw [cellsWinE] at hc
  match cs, hc with
  | [u0, u1], _ =>
    match ys, hl with
    | [z0, z1], _ =>
      obtain ⟨a0, e0, _, b0⟩ := DataW.trod_int Try.underlying2 (hf 0 _ rfl)
      have g0 : u0 = .int .i64 a0 := by simpa [Value.cells, cellsStrE, cellsIntE, cellsI64E] using e0
      obtain ⟨a1, e1, _, b1⟩ := DataW.trod_int Try.underlying2 (hf 1 _ rfl)
      have g1 : u1 = .int .i64 a1 := by simpa [Value.cells, cellsStrE, cellsIntE, cellsI64E] using e1
      subst g0 g1
      exact ⟨⟨a0, a1⟩, rfl⟩
set_option maxRecDepth 100000 in
theorem off_one {F : Nat → Prop} {fuel : Nat} {held : Bool} {cs : List Value} {x : DataW H × List MemPlace} (h : DataW.trod enc Try.prog W 0 (fun _ => true) held fuel 35 cs = some x) :
    ∃ f : Off, elOff W F cs f := by
  obtain ⟨ys, n, _, rfl, hc, hl, hf⟩ := DataW.trod_struct Try.underlying35 h
  rw [cellsOffE] at hc
  match cs, hc with
  | [u0, u1, u2, u3], _ =>
    match ys, hl with
    | [z0, z1, z2, z3], _ =>
      obtain ⟨a0, e0, _, b0⟩ := DataW.trod_int Try.underlying2 (hf 0 _ rfl)
      have g0 : u0 = .int .i64 a0 := by simpa [Value.cells, cellsStrE, cellsIntE, cellsI64E] using e0
      obtain ⟨a1, e1, _, b1⟩ := DataW.trod_string Try.underlying9 (hf 1 _ rfl)
      have g1 : u1 = .string a1 := by simpa [Value.cells, cellsStrE, cellsIntE, cellsI64E] using e1
      obtain ⟨a2, e2, _, b2⟩ := DataW.trod_int Try.underlying2 (hf 2 _ rfl)
      have g2 : u2 = .int .i64 a2 := by simpa [Value.cells, cellsStrE, cellsIntE, cellsI64E] using e2
      obtain ⟨a3, e3, _, b3⟩ := DataW.trod_int Try.underlying3 (hf 3 _ rfl)
      have g3 : u3 = .int .i64 a3 := by simpa [Value.cells, cellsStrE, cellsIntE, cellsI64E] using e3
      subst g0 g1 g2 g3
      exact ⟨⟨a0, a1.data.toList, a2, a3⟩, ⟨rfl, by simpa using b1⟩⟩
theorem day_one {F : Nat → Prop} {fuel : Nat} {held : Bool} {cs : List Value} {x : DataW H × List MemPlace} (h : DataW.trod enc Try.prog W 0 (fun _ => true) held fuel 2 cs = some x) :
    ∃ f : Int, elInt W F cs f := by
  obtain ⟨a0, e0, _, b0⟩ := DataW.trod_int Try.underlying2 h
  exact ⟨a0, e0⟩
set_option maxRecDepth 100000 in
/-- An office that came in. -/
theorem open_office {r : Reach} {b0 : Nat} {v : Value} {d : DataW H} {p : List MemPlace} (hv : Value.okWide Try.prog W r b0 27 v) (h : DataW.Trod enc Try.prog W 0 (fun _ => true) true 27 v d p) :
    ∃ (ws : List Win) (l : List Tra) (os : List Off) (ms : List Int) (wv lv ov mv : Value), v = .agg #[wv, lv, ov, mv] ∧ Sl 2 elWin W (· < W.heap.size) wv ws ∧ Sl 3 elTra W (· < W.heap.size) lv l ∧ Sl 4 elOff W (· < W.heap.size) ov os ∧ Sl 1 elInt W (· < W.heap.size) mv ms := by
  obtain ⟨cs, rfl, hsz⟩ := okWide_struct Try.underlying27 hv
  obtain ⟨fuel, hf⟩ := h
  obtain ⟨l⟩ := cs
  match l, hsz.trans cellsOfcE with
  | [c0, c1, c2, c3], _ =>
    obtain ⟨ys, n, _, _, _, hl, hf⟩ := DataW.trod_struct Try.underlying27 hf
    match ys, hl with
    | [z0, z1, z2, z3], _ =>
      obtain ⟨wv, ws, e0, h0⟩ := sl_raw (size := 2) (el := elWin) Try.underlying22 cellsWinE (by decide) (fun h => win_one h) (hf 0 _ rfl)
      obtain ⟨lv, l, e1, h1⟩ := sl_raw (size := 3) (el := elTra) Try.underlying23 cellsTraE (by decide) (fun h => tra_one h) (hf 1 _ rfl)
      obtain ⟨ov, os, e2, h2⟩ := sl_raw (size := 4) (el := elOff) Try.underlying24 cellsOffE (by decide) (fun h => off_one h) (hf 2 _ rfl)
      obtain ⟨mv, ms, e3, h3⟩ := sl_raw (size := 1) (el := elInt) Try.underlying25 cellsI64E (by decide) (fun h => day_one h) (hf 3 _ rfl)
      have g0 : c0 = wv := by simpa [Value.cells, cellsWsE, cellsTsE, cellsOsE, cellsMsE] using e0
      have g1 : c1 = lv := by simpa [Value.cells, cellsWsE, cellsTsE, cellsOsE, cellsMsE] using e1
      have g2 : c2 = ov := by simpa [Value.cells, cellsWsE, cellsTsE, cellsOsE, cellsMsE] using e2
      have g3 : c3 = mv := by simpa [Value.cells, cellsWsE, cellsTsE, cellsOsE, cellsMsE] using e3
      subst g0 g1 g2 g3
      exact ⟨ws, l, os, ms, _, _, _, _, rfl, h0, h1, h2, h3⟩
end
end Go.Proofs.Ytajcnjehjkpieaa
