/- Several texts of this family in one: J1 J2 J3 J5 P62 P64 J6 J7 J8 J9 J13 F0 J14 P70 P71 Y0 W8 Y1 Y2 Y3. -/
import Derived.Test.YtjchapoggmipbaaGreatDoorGP1
import Derived.Test.YtjchapoggmipbaaGreatDoorSort
import Derived.Deep.RegionHeld3
import Derived.Deep.CutBlock
import Derived.Deep.DeepCutAuto
import Derived.BigQuiet
import Derived.Test.YtjchapoggmipbaaGreatDoorGP0
set_option linter.unusedSimpArgs false
set_option linter.unusedVariables false
namespace Go.Proofs.YtjchapoggmipbaaGreatDoor
open Go.RowKit

theorem elOtc_F : ∀ w (G G' : Nat → Prop) cs x, elOtc w G cs x → elOtc w G' cs x := fun _ _ _ _ _ h => h
theorem elOtc_one : ∀ w (F : Nat → Prop) cs x, elOtc w F cs x → ∀ u ∈ cs, u.oneCell' = true := by
  intro w F cs x h u hu
  rw [h] at hu
  simp only [List.mem_cons, List.not_mem_nil, or_false] at hu
  rcases hu with rfl | rfl | rfl <;> rfl
set_option maxRecDepth 100000 in
set_option maxHeartbeats 2000000 in
theorem otc_Clone (l : List Otc) (v : Value) (F : Nat → Prop) (w : World) (h : Sl 3 elOtc w F v l) (hF : ∀ b, F b → b < w.heap.size) (hl : l.length ≤ 1000) :
    Calls Tryz.prog 133 #[v] w fun e w' => ∃ A c, e = .returned (.slice A l.length c) ∧ OwnSl 3 elOtc 82 w.heap.size w' (.slice A l.length c) l ∧ Below w.heap.size w w' := by
  obtain ⟨A, c, rfl, hc, hc2⟩ := h.shape
  have q : ∀ (w : World) n c, (binOp .eql 32 (.slice A n c) (.slice none 0 0)).run Tryz.prog w = .ok (.bool A.isNone) w := fun w n c => Lib.run_eql_slice_nil w _ _ A n c 0 0 Tryz.underlying32
  cases A with
  | none =>
    have h0 : l = [] := by
      cases l with
      | nil => rfl
      | cons a l => obtain ⟨b, o, cs, hA, _⟩ := h.at (k := 0) (by simp); cases hA
    subst h0
    clear h hF hc hc2
    go_enter Tryz.func133, Tryz.ntmps133
    go_wp2
    go_ret
    exact ⟨_, _, rfl, OwnSl.nil _, Below.refl _ _⟩
  | some ad =>
    have hown : OwnG 3 elOtc 82 w.heap.size (w.alloc (.cells #[] 82)) (.slice (some ⟨w.heap.size, 0, none⟩) 0 0) NoG [] := ⟨[], rfl, World.ownsRow_made w #[] 0 (Nat.le_refl _) (by decide) rfl, by simp, by simp⟩
    have hb1 : Below w.heap.size w (w.alloc (.cells #[] 82)) := Below.alloc (Below.refl _ _) (Nat.le_refl _) _
    have hsl := h.keep elOtc_good (Same.below hb1 hF) (G := F) fun _ h => h
    have hz : w.heap.size ≤ (w.alloc (.cells #[] 82)).heap.size := by simp
    have HO := Lib.hid hown
    have HS := Lib.hid hsl
    have HB := Lib.hid hb1
    have HZ := Lib.hid hz
    have h63 : l.length ≤ maxLen := by simp only [maxLen]; omega
    have h64 : l.length * 24 ≤ 140737488355328 := by omega
    clear h hF hown hb1 hsl hz hc hc2 hl
    go_enter Tryz.func133, Tryz.ntmps133
    go_wp2_with (at_builtin; refine wpList_append_mine rfl (.tmp 5) (.tmp 6) _ rfl E_otc elOtc_good w.heap.size ⟨w.heap.size, 0, none⟩ l rfl HO.out F (some ad) l.length c rfl HS.out elOtc_F elOtc_one h63 h64 HZ.out ?_; intro A1 c1 w1 hs1 hb1; have HS1 := Lib.hid hs1; have HB1 := Lib.hid hb1; clear hs1 hb1)
    go_ret
    exact ⟨_, _, rfl, HS1.out, HB.out.trans HB1.out⟩
/-! ### slices.SortFunc by chance.order -/
instance instOtcJ : Inhabited Otc := ⟨⟨0, false, 0⟩⟩
def encO (o : Otc) : List Value := [.int .i64 o.runs, .bool o.wick, .int .i64 o.wt]
theorem ordS_lt (a b : Otc) : ordS a b < 0 ↔ a.runs < b.runs ∨ (a.runs = b.runs ∧ a.wick = false ∧ b.wick = true) := by
  unfold ordS
  by_cases h : a.runs = b.runs
  · rw [if_neg (by simpa using h)]
    cases ha : a.wick <;> cases hb : b.wick <;> simp [h]
  · rw [if_pos h]
    by_cases h2 : a.runs < b.runs
    · rw [if_pos h2]; simp [h2]
    · rw [if_neg h2]; simp [h2, h]
theorem swoO : Sort.SWO (ltOf ordS) where
  irrefl x := by unfold ltOf; rw [decide_eq_false_iff_not, ordS_lt]; simp
  trans x y z h1 h2 := by
    unfold ltOf at *
    rw [decide_eq_true_eq, ordS_lt] at *
    rcases h1 with h1 | ⟨h1, h3, h4⟩ <;> rcases h2 with h2 | ⟨h2, h5, h6⟩
    · left; omega
    · left; omega
    · left; omega
    · rw [h4] at h5; cases h5
  ntrans x y z h1 h2 := by
    unfold ltOf at *
    rw [decide_eq_false_iff_not, ordS_lt] at *
    rcases Int.lt_trichotomy x.runs z.runs with h | h | h
    · exfalso
      rcases Int.lt_or_le x.runs y.runs with h3 | h3
      · exact h1 (.inl h3)
      · exact h2 (.inl (by omega))
    · rintro (h3 | ⟨_, h4, h5⟩)
      · omega
      · rcases Int.lt_trichotomy x.runs y.runs with h6 | h6 | h6
        · exact h1 (.inl h6)
        · cases hy : y.wick with
          | true => exact h1 (.inr ⟨h6, h4, hy⟩)
          | false => exact h2 (.inr ⟨by omega, hy, h5⟩)
        · exact h2 (.inl (by omega))
    · rintro (h3 | ⟨h3, _⟩) <;> omega
theorem cmpLaysO (blk off size : Nat) (w : World) : CmpLays Tryz.prog 65 #[] encO 3 ordS blk off size w :=
  fun m os dk _ x y => (ch_orderE x y _).mono fun e w' h => ⟨h.1, 0, #[.cells #[.int .i64 x.runs, .bool x.wick, .int .i64 x.wt] 82] ++ #[.cells #[.int .i64 y.runs, .bool y.wick, .int .i64 y.wt] 82], h.2.trans (by rw [Sort.alloc_eq_grow, Sort.alloc_eq_grow, Sort.grow_grow]; rfl)⟩
theorem getD3 {α : Type} [Inhabited α] (l : List α) {i : Nat} (h : i < l.length) : l.toArray[i]! = l[i] := by simp [h]
theorem holds_own {l : List Otc} {B g cap : Nat} {W : World} (h : OwnSl 3 elOtc 82 B W (.slice (some ⟨g, 0, none⟩) l.length cap) l) : Sort.HoldsK encO 3 W g 0 l.toArray := by
  obtain ⟨css, hlen, ho, hsz, hel⟩ := h
  intro t ht
  rw [Sort.size_flatK] at ht
  have htl : t < l.length * 3 := by simpa using ht
  have hi : t / 3 < l.length := by omega
  have hcs : css[t / 3]? = some css[t / 3] := List.getElem?_eq_getElem (by omega)
  have he : css[t / 3] = encO l[t / 3] := hel (t / 3) l[t / 3] css[t / 3] (List.getElem?_eq_getElem hi) hcs
  have hc3 : t % 3 < (encO l[t / 3]).length := Nat.mod_lt _ (by decide)
  have hu : css[t / 3][t % 3]? = some (encO l[t / 3])[t % 3] := by rw [he, List.getElem?_eq_getElem hc3]
  have hf := flatten_get hsz hcs hu
  rw [show t / 3 * 3 + t % 3 = t from by omega] at hf
  refine ⟨?_, by rw [Nat.zero_add]; exact ho.frozenAt t⟩
  rw [Nat.zero_add, ho.cellAt t (by simpa using htl), hf, Sort.get_flatK _ _ _ _ ht, getD3 l hi]
  have : (encO l[t / 3])[t % 3]! = (encO l[t / 3])[t % 3] := getElem!_pos (encO l[t / 3]) (t % 3) hc3
  rw [this]
  rfl
theorem sl_holds {l : List Otc} {g cap n : Nat} {W : World} (hn : n = l.length) (h1 : l.length ≤ cap) (h2 : cap ≤ maxLen) (h : Sort.HoldsK encO 3 W g 0 l.toArray) : Sl 3 elOtc W (fun b => b = g) (.slice (some ⟨g, 0, none⟩) n cap) l := by
  subst hn
  refine ⟨_, cap, rfl, h1, h2, fun _ => ⟨g, 0, rfl, rfl, fun i a hi => ?_⟩⟩
  have hil := (List.getElem?_eq_some_iff.1 hi).1
  have hia : l[i] = a := (List.getElem?_eq_some_iff.1 hi).2
  refine ⟨encO a, rfl, fun j u hj => ?_, rfl⟩
  have hj3 : j < 3 := (List.getElem?_eq_some_iff.1 hj).1
  have := (h.cell (i := i) (c := j) (by simpa using hil) hj3).1
  rw [this, getD3 l hil, hia, getElem!_pos (encO a) j (show j < (encO a).length from hj3)]
  exact congrArg some (List.getElem?_eq_some_iff.1 hj).2
theorem only_sorted {w : World} {g n : Nat} {os : Array Obj} (d : Array Otc) : Only g w (sortWorldK encO 3 w g 0 n d os) := by
  refine ⟨rfl, rfl, rfl, by simp [sortWorldK, Sort.putRowK, Sort.putRow, Sort.mapBlock, Sort.grow, Sort.ahead], fun k hk hne => ?_⟩
  unfold sortWorldK Sort.putRowK
  rw [Sort.heap_grow_old _ _ (by simpa using hk)]
  have : g ≠ k := fun e => hne (by rw [e])
  simp [Sort.putRow, Sort.mapBlock, Sort.ahead, Array.getElem?_modify, this]
set_option maxHeartbeats 1000000 in
theorem otc_Sort (l : List Otc) (B g cap : Nat) (W : World) (h : OwnSl 3 elOtc 82 B W (.slice (some ⟨g, 0, none⟩) l.length cap) l) (hl : l.length ≤ 1000) :
    Calls Tryz.prog 134 #[.slice (some ⟨g, 0, none⟩) l.length cap, .func (.func 65) #[] #[]] W fun e w' => e = .returned (.tuple #[]) ∧
      ∃ l' : List Otc, l'.Perm l ∧ l'.length = l.length ∧ (l'.Pairwise fun a b => befB b a = false) ∧ Sl 3 elOtc w' (fun b => b = g) (.slice (some ⟨g, 0, none⟩) l.length cap) l' ∧ Only g W w' := by
  have hb := h.block g rfl
  have hcap : l.length ≤ cap ∧ cap ≤ maxLen := by
    obtain ⟨css, hlen, ho, _⟩ := h
    rcases ho.2 with ⟨hv, _⟩ | ⟨g', cap', cur, hv, _, _, h1, h2, _⟩
    · cases hv
    · injection hv with _ _ e; subst e; exact ⟨h1, h2⟩
  have eg : ∀ args w, (callFunc 65 args).run Tryz.prog w = .ok (.enter 65 args) w := enters_of Tryz.func65 (by kernel_rfl) rfl
  have hH := holds_own h
  have hcon := AnyQ.slices_SortFunc Tryz.sortOtc 3 Tryz.isAgg82 Tryz.sizeOf82 encO (fun _ => rfl) (fun x v hv => by simp [encO] at hv; rcases hv with rfl | rfl | rfl <;> rfl) ordS swoO 65 #[] g 0 cap l.toArray W eg (cmpLaysO g 0 l.toArray.size W) hH hb.2 (by simp; omega)
  change Calls Tryz.prog 134 _ _ _ at hcon
  have hsz : l.toArray.size = l.length := by simp
  rw [hsz] at hcon
  refine hcon.mono ?_
  rintro e w' ⟨rfl, d', n, os, hp, hs, rfl⟩
  have hds : d'.size = l.length := by rw [hp.1]; simp
  refine ⟨rfl, d'.toList, ?_, by simpa using hds, ?_, ?_, only_sorted d'⟩
  · have := hp.2.2
    rw [show d'.extract 0 l.length = d' from by rw [← hds]; simp, show l.toArray.extract 0 l.length = l.toArray from by simp] at this
    simpa using this
  · rw [List.pairwise_iff_getElem]
    intro i j hi hj hij
    have := hs i j (Nat.zero_le _) hij (by rw [← hds]; simpa using hj)
    unfold ltOf at this
    rw [getElem!_pos d' j (by simpa using hj), getElem!_pos d' i (by simpa using hi)] at this
    simpa [befB] using this
  · have hH2 := holdsK_sortWorldK_c encO 3 W g 0 l.toArray d' n os hH hb.2 (by rw [hds]; simp)
    refine sl_holds (by simpa using hds.symm) (by simp; omega) hcap.2 ?_
    simpa using hH2
end Go.Proofs.YtjchapoggmipbaaGreatDoor

namespace Go.Proofs.YtjchapoggmipbaaGreatDoor
open Go.RowKit

theorem badN_ways (o : Otc) : (badN o = true ∧ ((decide (o.runs < 0) = true) ∨ (decide (o.runs < 0) = false ∧ decide (7 < o.runs) = true) ∨ (decide (o.runs < 0) = false ∧ decide (7 < o.runs) = false ∧ decide (o.wt < 0) = true) ∨ (decide (o.runs < 0) = false ∧ decide (7 < o.runs) = false ∧ decide (o.wt < 0) = false ∧ decide (16 < o.wt) = true)))
    ∨ (badN o = false ∧ decide (o.runs < 0) = false ∧ decide (7 < o.runs) = false ∧ decide (o.wt < 0) = false ∧ decide (16 < o.wt) = false) := by
  unfold badN
  cases decide (o.runs < 0) <;> cases decide (7 < o.runs) <;> cases decide (o.wt < 0) <;> cases decide (16 < o.wt) <;> simp
theorem norm_long {d : List Otc} (h : 64 < d.length) : normS d = ([], 9) := by unfold normS; rw [if_pos h]
theorem norm_bad {d : List Otc} (h : ¬ 64 < d.length) {o : Otc} (ho : o ∈ d) (hb : badN o = true) : normS d = ([], 2) := by
  unfold normS; rw [if_neg h, if_pos (List.any_eq_true.2 ⟨o, ho, hb⟩)]
theorem any_good {d : List Otc} (ho : ∀ o ∈ d, badN o = false) : ¬ d.any badN = true := fun h => by
  obtain ⟨o, hx, hb⟩ := List.any_eq_true.1 h
  rw [ho o hx] at hb; cases hb
theorem norm_sum {d : List Otc} (h : ¬ 64 < d.length) (ho : ∀ o ∈ d, badN o = false) (hs : sumI (d.map (·.wt)) ≠ 16) : normS d = ([], 12) := by
  unfold normS; rw [if_neg h, if_neg (any_good ho), if_pos hs]
theorem norm_fine {d : List Otc} (h : ¬ 64 < d.length) (ho : ∀ o ∈ d, badN o = false) (hs : sumI (d.map (·.wt)) = 16) : normS d = (canon (wAt d), 0) := by
  unfold normS; rw [if_neg h, if_neg (any_good ho), if_neg (by omega)]
theorem take_good {d : List Otc} {k : Nat} (hk : k < d.length) (h : ∀ o ∈ d.take k, badN o = false) (h1 : badN d[k] = false) : ∀ o ∈ d.take (k + 1), badN o = false := by
  intro o ho
  rw [List.take_add_one, List.getElem?_eq_getElem hk, List.mem_append] at ho
  rcases ho with ho | ho
  · exact h o ho
  · simp at ho; rw [ho]; exact h1
theorem otc_nil {w w' : World} {n : Int} (hb : Below w.heap.size w w') {z : List Otc × Int} (hz : z = ([], n)) : OtcPost w z (.returned (.tuple #[.slice none 0 0, .int .i64 n])) w' := by
  subst hz; exact ⟨_, rfl, Sl.nil _ _, hb⟩
theorem sorted_keys {l : List Otc} (ho : ∀ o ∈ l, badN o = false) (h : l.Pairwise fun a b => befB b a = false) : l.Pairwise fun a b => keyO a ≤ keyO b := by
  rw [List.pairwise_iff_getElem] at h ⊢
  intro i j hi hj hij
  have h1 := h i j hi hj hij
  have hai := (badN_no (ho _ (List.getElem_mem hi))).r0
  have haj := (badN_no (ho _ (List.getElem_mem hj))).r0
  rw [bef_key haj hai, decide_eq_false_iff_not] at h1
  omega
theorem merge_skip {out l : List Otc} {o : Otc} (h : o.wt = 0) : mergeF out (o :: l) = mergeF out l := by rw [mergeF, if_pos h]
theorem merge_first {l : List Otc} {o : Otc} (h : o.wt ≠ 0) : mergeF [] (o :: l) = mergeF [o] l := by rw [mergeF, if_neg h]; rfl
theorem merge_new {out l : List Otc} {o p : Otc} {k : Nat} (hk : out.length = k + 1) (hp : out[k]? = some p) (h : o.wt ≠ 0) (ho : ordS p o ≠ 0) : mergeF out (o :: l) = mergeF (out ++ [o]) l := by
  have e : out.getLast? = some p := by rw [List.getLast?_eq_getElem?, show out.length - 1 = k from by omega, hp]
  rw [mergeF, if_neg h, e]
  simp only [ho, if_false]
theorem merge_same {out l : List Otc} {o p : Otc} {k : Nat} (hk : out.length = k + 1) (hp : out[k]? = some p) (h : o.wt ≠ 0) (ho : ordS p o = 0) :
    mergeF out (o :: l) = mergeF (out.set k { p with wt := p.wt + o.wt }) l := by
  have e : out.getLast? = some p := by rw [List.getLast?_eq_getElem?, show out.length - 1 = k from by omega, hp]
  have e2 : ∀ x, out.dropLast ++ [x] = out.set k x := fun x => by
    rw [List.dropLast_eq_take, show out.length - 1 = k from by omega, List.set_eq_take_append_cons_drop, if_pos (by omega), List.drop_of_length_le (by omega)]
  rw [mergeF, if_neg h, e]
  simp only [ho, if_true]
  rw [e2]
/-- While the sorted list is merged: it lies in block g; the row of those that are out is younger. -/
structure Mg (w : World) (g : Nat) (B2 : Nat) (sv : Value) (l : List Otc) (W : World) (ov : Value) (out : List Otc) : Prop where
  bel : Below w.heap.size w W
  hg : w.heap.size ≤ g ∧ g < B2
  hB : B2 ≤ W.heap.size
  so : Sl 3 elOtc W (fun b => b = g) sv l
  own : OwnSl 3 elOtc 82 B2 W ov out
section
variable {w W W' : World} {g B2 : Nat} {sv ov : Value} {l out : List Otc}
theorem Mg.below (h : Mg w g B2 sv l W ov out) (hb : Below W.heap.size W W') : Mg w g B2 sv l W' ov out :=
  ⟨h.bel.trans (hb.mono h.bel.size), h.hg, Nat.le_trans h.hB hb.size, h.so.keep elOtc_good (Same.below hb fun b (hx : b = g) => by have := h.hg; have := h.hB; omega) fun _ h => h, h.own.below elOtc_good hb⟩
theorem Mg.out_at {A : Option Addr} {n c k : Nat} (h : Mg w g B2 sv l W (.slice A n c) out) (hk : k < out.length) : ∃ g2, A = some ⟨g2, 0, none⟩ ∧ n = out.length ∧ B2 ≤ g2 ∧ g2 < W.heap.size ∧ W.cell? ⟨g2, k * 3, none⟩ = some (.int .i64 out[k].runs) ∧ W.cell? ⟨g2, k * 3 + 1, none⟩ = some (.bool out[k].wick) ∧ W.cell? ⟨g2, k * 3 + 2, none⟩ = some (.int .i64 out[k].wt) ∧ W.frozen? ⟨g2, k * 3 + 2, none⟩ = false := by
  have hs := h.own.sl elOtc_good
  obtain ⟨A', c', hv, _⟩ := hs.shape
  injection hv with e1 e2 e3
  obtain ⟨b, o, rfl, hF, y0, y1, y2⟩ := otc_at (e1 ▸ e2 ▸ hs) hk
  obtain ⟨css, h1, h2, h3, h4⟩ := h.own
  rcases h2.2 with ⟨hv, hn⟩ | ⟨g', cap', cur, hv, _⟩
  · exfalso; omega
  · simp only [Value.slice.injEq, Option.some.injEq, Addr.mk.injEq] at hv
    obtain ⟨⟨rfl, rfl, _⟩, _⟩ := hv
    simp only [Option.some.injEq, Addr.mk.injEq, and_true] at e1
    obtain ⟨rfl, rfl⟩ := e1
    rw [Nat.zero_add] at y0 y1 y2
    subst e2
    exact ⟨_, rfl, rfl, hF.1, hF.2, y0, y1, y2, h2.frozenAt _⟩
theorem Mg.at2 {g2 n c k : Nat} (h : Mg w g B2 sv l W (.slice (some ⟨g2, 0, none⟩) n c) out) (hk : k < out.length) : W.cell? ⟨g2, k * 3, none⟩ = some (.int .i64 out[k].runs) ∧ W.cell? ⟨g2, k * 3 + 1, none⟩ = some (.bool out[k].wick) ∧ W.cell? ⟨g2, k * 3 + 2, none⟩ = some (.int .i64 out[k].wt) ∧ W.frozen? ⟨g2, k * 3 + 2, none⟩ = false := by
  obtain ⟨g', e, _, _, _, h1⟩ := h.out_at hk
  simp only [Option.some.injEq, Addr.mk.injEq, and_true] at e
  subst e
  exact h1
theorem Mg.put {g2 n c k : Nat} (h : Mg w g B2 sv l W (.slice (some ⟨g2, 0, none⟩) n c) out) (hk : k < out.length) (x : Int) : Mg w g B2 sv l (W.setCell ⟨g2, k * 3 + 2, none⟩ (.int .i64 x)) (.slice (some ⟨g2, 0, none⟩) n c) (out.set k { out[k] with wt := x }) := by
  have hb := h.own.block g2 rfl
  have hg := h.hg
  have ho := (Only.refl g2 W).setCell (p := ⟨g2, k * 3 + 2, none⟩) (.inl rfl) (.int .i64 x)
  have hB := h.hB
  refine ⟨h.bel.setCell (by show w.heap.size ≤ g2; omega) _, h.hg, by simp; omega, h.so.keep elOtc_good (ho.same fun b (hx : b = g) => ⟨by omega, by omega⟩) fun _ h => h, ?_⟩
  exact OwnG.put h.own (fun _ _ _ h => h) hk (show 2 < 3 by decide) (.int .i64 x) { out[k] with wt := x } fun c9 w9 h9 => by rw [show c9 = _ from h9]; rfl
theorem Mg.app {v' : Value} {o : Otc} (h : Mg w g B2 sv l W ov out) (hown : OwnSl 3 elOtc 82 B2 W' v' (out ++ [o])) (hg : W.grownBy W' ov.ownBlock) : Mg w g B2 sv l W' v' (out ++ [o]) := by
  have hgg := h.hg
  have hB := h.hB
  refine ⟨below_own h.bel h.own hg (by omega) h.hB, h.hg, Nat.le_trans h.hB hg.size, h.so.keep elOtc_good (Same.grown hg fun b (hx : b = g) => ⟨by omega, fun e => ?_⟩) fun _ h => h, hown⟩
  have := h.own.block b e.symm
  omega
end
theorem own_len {W : World} {B : Nat} {ov : Value} {out : List Otc} (h : OwnSl 3 elOtc 82 B W ov out) : ∃ A c, ov = .slice A out.length c := by
  obtain ⟨A, c, hv, _⟩ := (h.sl elOtc_good).shape
  exact ⟨A, c, hv⟩
theorem room1 {k n : Nat} (h : n ≤ k) (hk : k < 1000) : n + 1 ≤ maxLen ∧ (n + 1) * 24 ≤ 140737488355328 := by simp only [maxLen]; omega
theorem base1 {B : Nat} {W : World} (h : B ≤ W.heap.size) (o : Obj) : B ≤ (W.alloc o).heap.size := by simp; omega
theorem own_some {W : World} {B n c : Nat} {A : Option Addr} {out : List Otc} (h : OwnSl 3 elOtc 82 B W (.slice A n c) out) (h0 : 0 < out.length) : ∃ g, A = some ⟨g, 0, none⟩ := by
  obtain ⟨css, h1, h2, h3, h4⟩ := h
  rcases h2.2 with ⟨hv, hn⟩ | ⟨g', cap', cur, hv, _⟩
  · omega
  · injection hv with e1 _ _; exact ⟨g', e1⟩
set_option maxRecDepth 100000 in
set_option maxHeartbeats 4000000 in
theorem ch_Norm (d : List Otc) (v : Value) (w : World) (h : Sl 3 elOtc w (· < w.heap.size) v d) : Calls Tryz.prog 108 #[v] w (OtcPost w (normS d)) := by
  obtain ⟨z, hz⟩ : ∃ z, z = normS d := ⟨_, rfl⟩
  rw [← hz]
  obtain ⟨A, c, rfl, hc, hc2⟩ := h.shape
  by_cases h64 : 64 < d.length
  · rw [norm_long h64] at hz
    have e64 : (64 : Int) < (d.length : Int) := by omega
    have HZ := Lib.hid hz
    clear hz h h64
    go_enter Tryz.func108, Tryz.ntmps108
    go_wp2
    go_ret2
    exact otc_nil (Below.refl _ _) HZ.out
  · have e64 : (d.length : Int) ≤ 64 := by omega
    have HZ := Lib.hid hz
    have H := Lib.hid h
    have HN := Lib.hid h64
    clear hz h h64
    go_enter Tryz.func108, Tryz.ntmps108
    go_wp2
    go_loopw [4, 17] (fun sv i wr => ∃ (k : Nat) (s : Int), k ≤ d.length ∧ i = .int .i64 k ∧ sv = .int .i64 s ∧ 0 ≤ s ∧ s ≤ 16 * k ∧ Below w.heap.size w wr ∧ Hid (s = sumI ((d.take k).map (·.wt))) ∧ Hid (∀ o ∈ d.take k, badN o = false))
      (fun _ i _ => d.length - (intOf i).toNat)
    case atStart => exact ⟨0, 0, Nat.zero_le _, rfl, rfl, by omega, by omega, Below.refl _ _, Lib.hid rfl, Lib.hid (by simp)⟩
    case round =>
      obtain ⟨k, s, hk, rfl, rfl, hs0, hs1, hb, hss, hgd⟩ := hrel
      have HB := Lib.hid hb
      by_cases hlt : k < d.length
      · obtain ⟨b, o, rfl, hbl, y0', y1', y2'⟩ := otc_at H.out hlt
        have hst := sumI_map_take (f := fun o : Otc => o.wt) hlt
        rw [← hss.out] at hst
        have hgt := fun h1 => take_good hlt hgd.out h1
        have hbt := fun h1 => norm_bad HN.out (List.getElem_mem hlt) h1
        obtain ⟨⟨pr, pw, pt⟩, hp⟩ : ∃ p, p = d[k] := ⟨_, rfl⟩
        rw [← hp] at y0' y1' y2' hst hgt hbt
        have y0 := (hb.cell (p := ⟨b, o + k * 3, none⟩) hbl).trans y0'
        have y1 := (hb.cell (p := ⟨b, o + k * 3 + 1, none⟩) hbl).trans y1'
        have y2 := (hb.cell (p := ⟨b, o + k * 3 + 2, none⟩) hbl).trans y2'
        dsimp only at y0 y1 y2 hst
        rcases badN_ways ⟨pr, pw, pt⟩ with ⟨hB, hw⟩ | ⟨hB, e1, e2, e3, e4⟩
        · have hz2 : z = ([], 2) := by rw [HZ.out, hbt hB]
          have HZZ := Lib.hid hz2
          clear hb hss hgd hp hst hgt hbt y0' y1' y2' hz2 hB
          rcases hw with e1 | ⟨e1, e2⟩ | ⟨e1, e2, e3⟩ | ⟨e1, e2, e3, e4⟩
          all_goals
            dsimp only at *
            go_wp2
            go_ret2
            exact otc_nil (Below.alloc HB.out HB.out.size _) HZZ.out
        · have hok := badN_no hB
          have hw0 := hok.w0
          have hw16 := hok.w16
          dsimp only at e1 e2 e3 e4 hw0 hw16
          have HST := Lib.hid hst.symm
          have HGT := Lib.hid (hgt hB)
          clear hb hss hgd hp hst hgt hbt y0' y1' y2' hB hok
          go_wp2
          go_roundw
          case rel => exact ⟨k + 1, _, by omega, by go_num, rfl, by omega, by push_cast; omega, Below.alloc HB.out HB.out.size _, HST, HGT⟩
          case measure => simp [intOf]; omega
      · obtain rfl : k = d.length := by omega
        have hs2 := hss.out
        have hg2 := hgd.out
        rw [List.take_of_length_le (Nat.le_refl _)] at hs2 hg2
        by_cases h16 : s = 16
        · have hz2 := HZ.out
          rw [norm_fine HN.out hg2 (by rw [← hs2]; exact h16)] at hz2
          have hne : d ≠ [] := fun e => by rw [e] at hs2; rw [h16] at hs2; simp [sumI_nil] at hs2
          have hlen : d.length ≤ 1000 := by omega
          have hsl := H.out.keep elOtc_good (Same.of_below hb) (G := (· < w.heap.size)) fun _ h => h
          have kc := otc_Clone d _ (· < w.heap.size) wr hsl (fun b hx => Nat.lt_of_lt_of_le hx hb.size) hlen
          have ks := fun B g cap W (h : OwnSl 3 elOtc 82 B W (.slice (some ⟨g, 0, none⟩) d.length cap) d) => otc_Sort d B g cap W h hlen
          have hmerge : ∀ l : List Otc, l.Perm d → (l.Pairwise fun a b => befB b a = false) → mergeF [] l = canon (wAt d) ∧ ∀ o ∈ l, badN o = false := fun l hp hw => by
            have ho : ∀ o ∈ l, badN o = false := fun o hx => hg2 o (hp.mem_iff.1 hx)
            exact ⟨merge_norm hp (fun o hx => badN_no (hg2 o hx)) (sorted_keys ho hw), ho⟩
          have HZZ := Lib.hid hz2
          have KC := Lib.hid kc
          have KS := Lib.hid ks
          have HM := Lib.hid hmerge
          have hpos : 0 < d.length := List.length_pos_iff.2 hne
          have tok0 : True := trivial
          subst h16
          clear hb hss hgd hs2 hg2 hz2 hne hlen hsl kc ks hmerge hs0 hs1 HZ
          go_wp2_with (first
            | (clear tok0; go_at_call 133; refine KC.out.mono ?_; rintro e w2 ⟨A2, c2, rfl, ho2, hb2⟩; obtain ⟨g, rfl⟩ := own_some ho2 hpos; have HO2 := Lib.hid ho2; have HB2 := Lib.hid (HB.out.trans (hb2.mono HB.out.size)); have hgb := ho2.block g rfl; have HGB := Lib.hid (show w.heap.size ≤ g ∧ g < w2.heap.size from ⟨Nat.le_trans HB.out.size hgb.1, hgb.2⟩); clear ho2 hb2 hgb; have tok1 : True := trivial)
            | (clear tok1; go_at_call 134; refine (KS.out _ _ _ _ HO2.out).mono ?_; rintro e w3 ⟨rfl, l, hp3, hl3, hw3, hs3, ho3⟩; have HP3 := Lib.hid hp3; have HL3 := Lib.hid hl3; have HW3 := Lib.hid hw3; have HS3 := Lib.hid hs3; have HB3 := Lib.hid (HB2.out.trans (ho3.below HGB.out.1 HB2.out.size)); have HZ3 := Lib.hid ho3.size; clear hp3 hl3 hw3 hs3 ho3; have tok2 : True := trivial))
          have hmg : Mg w g w3.heap.size (.slice (some ⟨g, 0, none⟩) d.length c2) l w3 (.slice none 0 0) [] := ⟨HB3.out, ⟨HGB.out.1, by have := HGB.out.2; have := HZ3.out; omega⟩, Nat.le_refl _, HS3.out, OwnSl.nil _⟩
          obtain ⟨hm1, hm2⟩ := HM.out l HP3.out HW3.out
          have hlen : d.length = l.length := HL3.out.symm
          have HMG := Lib.hid hmg
          have HM1 : Hid (mergeF [] (l.drop 0) = canon (wAt d)) := Lib.hid hm1
          have HM2 := Lib.hid hm2
          have HLE := Lib.hid hlen
          clear hmg hm1 hm2 HM HP3 HW3 HS3 HB3 HZ3 HO2 HB2 hlen
          go_loopw [8, 52] (fun ov i wx => ∃ (k : Nat) (out : List Otc), k ≤ d.length ∧ i = .int .i64 k ∧ Mg w g w3.heap.size (.slice (some ⟨g, 0, none⟩) d.length c2) l wx ov out ∧ out.length ≤ k ∧ (∀ p ∈ out, 0 ≤ p.wt ∧ p.wt ≤ 16 * k) ∧ Hid (mergeF out (l.drop k) = canon (wAt d)))
            (fun _ i _ => d.length - (intOf i).toNat)
          case atStart => exact ⟨0, [], Nat.zero_le _, rfl, HMG.out, Nat.le_refl _, by simp, HM1⟩
          case round =>
            obtain ⟨k, out, hk, rfl, hmg, hol, how, hmm⟩ := hrel
            obtain ⟨Ao, co, rfl⟩ := own_len hmg.own
            by_cases hlt : k < d.length
            · have hkl : k < l.length := by rw [← HLE.out]; exact hlt
              obtain ⟨b, o, hbo, hbg, y0, y1, y2⟩ := otc_at (show Sl 3 elOtc _ (fun b => b = g) (.slice (some ⟨g, 0, none⟩) d.length c2) l from hmg.so) hkl
              replace hbg := hbg.symm
              subst hbg
              obtain rfl : o = 0 := by simp at hbo; omega
              clear hbo
              have hwt := badN_no (HM2.out _ (List.getElem_mem hkl))
              have hmd := hmm.out
              rw [List.drop_eq_getElem_cons hkl] at hmd
              obtain ⟨⟨pr, pw, pt⟩, hp⟩ : ∃ p, p = l[k] := ⟨_, rfl⟩
              rw [← hp] at y0 y1 y2 hwt hmd
              obtain ⟨hr0, hr7, hw0, hw16⟩ := hwt
              dsimp only at y0 y1 y2 hw0 hw16
              rw [Nat.zero_add] at y0 y1 y2
              have hgw : g < wr.heap.size := by have := hmg.hg; have := hmg.hB; omega
              have hma := hmg.below (Below.alloc (Below.refl _ _) (Nat.le_refl _) (.cells #[.int .i64 pr, .bool pw, .int .i64 pt] 82))
              have HMA := Lib.hid hma
              have HOW := Lib.hid how
              have HOL := Lib.hid hol
              have HK1 := Lib.hid (show k < 1000 from by omega)
              by_cases ht : pt = 0
              · have hmd2 := hmd
                rw [merge_skip (by exact ht)] at hmd2
                have HMD := Lib.hid hmd2
                have et : (pt == 0) = true := by rw [ht]; rfl
                clear hmg hma how hmm hmd hmd2 hp hr0 hr7 hol ht
                go_wp2
                go_roundw
                case rel => exact ⟨k + 1, out, by omega, by go_num, HMA.out, by have := HOL.out; omega, fun p hx => by have := HOW.out p hx; push_cast; omega, HMD⟩
                case measure => simp [intOf]; omega
              · have et : (pt == 0) = false := by simpa using ht
                have HP := Lib.hid (show (⟨pr, pw, pt⟩ : Otc).wt ≠ 0 from ht)
                have hap := fun W' v' (h1 : OwnSl 3 elOtc 82 w3.heap.size W' v' (out ++ [⟨pr, pw, pt⟩])) W (h0 : Mg w g w3.heap.size (.slice (some ⟨g, 0, none⟩) d.length c2) l W (.slice Ao out.length co) out) o (h2 : (W.alloc o).grownBy W' (Value.slice Ao out.length co).ownBlock) => (h0.below (Below.alloc (Below.refl _ _) (Nat.le_refl _) o)).app h1 h2
                have HAP := Lib.hid hap
                have hbd : ∀ p ∈ out ++ [(⟨pr, pw, pt⟩ : Otc)], 0 ≤ p.wt ∧ p.wt ≤ 16 * ((k + 1 : Nat) : Int) := fun p hx => by
                  rcases List.mem_append.1 hx with hx | hx
                  · have := how p hx; push_cast; omega
                  · rw [List.mem_singleton.1 hx]; dsimp only; push_cast; omega
                have HBD := Lib.hid hbd
                rcases Nat.eq_zero_or_pos out.length with h0 | h0
                · have hout : out = [] := List.length_eq_zero_iff.1 h0
                  subst hout
                  rw [merge_first HP.out] at hmd
                  have HMD := Lib.hid hmd
                  have s1 : IntKind.i64.wrap (((List.length ([] : List Otc) : Nat) : Int) - 1) = -1 := by decide
                  clear hmg how hmm hmd hp hr0 hr7 hol hap hma h0 hbd HAP HOW
                  go_wp2
                  go_quiet (fail)
                  have hm4 := HMA.out.below (Below.drewN_ (Below.refl _ _) nq)
                  have hk4 : Blk ((wr.alloc (.cells #[.int .i64 pr, .bool pw, .int .i64 pt] 82)).drewN nq) wr.heap.size 82 #[.int .i64 pr, .bool pw, .int .i64 pt] := (Blk.new wr _ _).below (Below.drewN_ (Below.refl (wr.alloc (.cells #[.int .i64 pr, .bool pw, .int .i64 pt] 82)).heap.size _) nq) (by simp)
                  generalize (wr.alloc (.cells #[.int .i64 pr, .bool pw, .int .i64 pt] 82)).drewN nq = W4 at hm4 hk4 ⊢
                  have HM4 := Lib.hid hm4
                  have HK4 := Lib.hid hk4
                  clear hm4 hk4
                  obtain ⟨c0, c1, c2, _⟩ := Blk.three HK4.out
                  go_wp2_with (at_builtin; refine wpList_append_sl _ rfl (.tmp 83) (.tmp 85) _ rfl E_otc elOtc_good w3.heap.size _ [] rfl (HM4.out.own.alloc elOtc_good _) ⟨W4.heap.size, 0, none⟩ 1 [.int .i64 pr, .bool pw, .int .i64 pt] rfl ⟨pr, pw, pt⟩ rfl (cells_new _ _ _ _) (oneCells rfl) rfl (room1 HOL.out HK1.out).1 (room1 HOL.out HK1.out).2 (base1 HM4.out.hB _) ?_; intro v6 w6 hown6 hg6 hat6; have h6 := (HM4.out.below (Below.alloc (Below.refl _ _) (Nat.le_refl _) (.cells #[.int .i64 pr, .bool pw, .int .i64 pt] 82))).app hown6 hg6; have H6 := Lib.hid h6; clear hown6 hg6 hat6 h6)
                  go_roundw
                  case rel => exact ⟨k + 1, [] ++ [⟨pr, pw, pt⟩], by omega, by go_num, H6.out, by have := HOL.out; rw [List.length_append, List.length_singleton]; omega, HBD.out, HMD⟩
                  case measure => simp [intOf]; omega
                · obtain ⟨m, hm⟩ : ∃ m, out.length = m + 1 := ⟨out.length - 1, by omega⟩
                  have hmo : m < out.length := by omega
                  have hget : out[m]? = some out[m] := List.getElem?_eq_getElem hmo
                  have hqw := how _ (List.getElem_mem hmo)
                  have hma2 := HMA.out.below (Below.drew (Below.refl _ _))
                  obtain ⟨g2, hA2, _, hg2a, hg2b, p0, p1, p2, pf⟩ := hma2.out_at hmo
                  subst hA2
                  have hkd : Blk (wr.alloc (.cells #[.int .i64 pr, .bool pw, .int .i64 pt] 82)).drew wr.heap.size 82 #[.int .i64 pr, .bool pw, .int .i64 pt] := (Blk.new wr _ _).drew
                  have kord := fun W => ch_order out[m] ⟨pr, pw, pt⟩ W
                  have hnew := fun ho => merge_new (l := l.drop (k + 1)) hm hget HP.out ho
                  have hsame := fun ho => merge_same (l := l.drop (k + 1)) hm hget HP.out ho
                  have hput := fun W (h : Mg w g w3.heap.size (.slice (some ⟨g, 0, none⟩) d.length c2) l W (.slice (some ⟨g2, 0, none⟩) out.length co) out) x => h.put hmo x
                  have hset : ∀ x y : Int, 0 ≤ x → x ≤ 16 * ((k + 1 : Nat) : Int) → ∀ p ∈ out.set m { out[m] with wt := x }, 0 ≤ p.wt ∧ p.wt ≤ 16 * ((k + 1 : Nat) : Int) := fun x y h1 h2 p hx => by
                    rcases List.mem_or_eq_of_mem_set hx with hx | hx
                    · have := how p hx; push_cast; omega
                    · rw [hx]; exact ⟨h1, h2⟩
                  have hat := fun W (h : Mg w g w3.heap.size (.slice (some ⟨g, 0, none⟩) d.length c2) l W (.slice (some ⟨g2, 0, none⟩) out.length co) out) => h.at2 hmo
                  obtain ⟨⟨qr, qw, qt⟩, hq⟩ : ∃ q, q = out[m] := ⟨_, rfl⟩
                  rw [← hq] at p0 p1 p2 kord hnew hsame hput hqw hset hat
                  obtain ⟨u, hu⟩ : ∃ u, u = ordS ⟨qr, qw, qt⟩ ⟨pr, pw, pt⟩ := ⟨_, rfl⟩
                  rw [← hu] at kord hnew hsame
                  obtain ⟨hq0, hq1⟩ := hqw
                  dsimp only at p0 p1 p2 hq0 hq1 hput hsame hset hat
                  unfold outV at kord
                  dsimp only at kord
                  have KORD := Lib.hid kord
                  have HMA2 := Lib.hid hma2
                  have HKD := Lib.hid hkd
                  have HPUT := Lib.hid hput
                  have HSET := Lib.hid hset
                  have HAT := Lib.hid hat
                  obtain ⟨c0, c1, c2', _⟩ := Blk.three hkd
                  have s1 : IntKind.i64.wrap ((out.length : Int) - 1) = (m : Int) := by rw [IntWalk.i64_in _ (by omega)]; omega
                  have s4 : (m : Int) < (out.length : Int) := by omega
                  have hkr : wr.heap.size < (wr.alloc (.cells #[.int .i64 pr, .bool pw, .int .i64 pt] 82)).drew.heap.size := by simp
                  have HKR := Lib.hid hkr
                  have HMO := Lib.hid hmo
                  have tok3 : True := trivial
                  clear hma2 hkd kord hput hset hat hkr hget hq hmg how hmm hp hr0 hr7 hol hap hma h0 hbd hm HOW
                  by_cases h0 : u = 0
                  · rw [hsame h0] at hmd
                    have HMD := Lib.hid hmd
                    have eu : (u == 0) = true := by rw [h0]; rfl
                    clear hnew hsame hu h0 hmd pf hmo
                    go_wp2_with fail
                    go_region_held3 (fun w' => w'.cell? ⟨g2, m * 3, none⟩ = some (.int .i64 qr) ∧ w'.cell? ⟨g2, m * 3 + 1, none⟩ = some (.bool qw) ∧ w'.cell? ⟨g2, m * 3 + 2, none⟩ = some (.int .i64 qt) ∧ w'.cell? ⟨wr.heap.size, 0, none⟩ = some (.int .i64 pr) ∧ w'.cell? ⟨wr.heap.size, 1, none⟩ = some (.bool pw) ∧ w'.cell? ⟨wr.heap.size, 2, none⟩ = some (.int .i64 pt))
                      (first | exact ⟨p0, p1, p2, c0, c1, c2'⟩ | go_keep)
                      (first | (clear tok3; go_at_call 65; refine (KORD.out _).mono ?_; rintro e w5 ⟨rfl, hb5⟩; clear p0 p1 p2 c0 c1 c2'; have hm5 := HMA2.out.below hb5; obtain ⟨p0, p1, p2, pf⟩ := HAT.out _ hm5; obtain ⟨c0, c1, c2', _⟩ := Blk.three (HKD.out.below hb5 HKR.out); have HM5 := Lib.hid hm5; clear hm5 hb5))
                    go_wp2_with fail
                    go_region
                    go_wp2_with fail
                    go_roundw
                    case rel => exact ⟨k + 1, _, by omega, by go_num, (HPUT.out _ HM5.out _).below (Below.drew (Below.refl _ _)), by have := HOL.out; rw [List.length_set]; omega, HSET.out _ 0 (by omega) (by push_cast; omega), HMD⟩
                    case measure => simp [intOf]; omega
                  · rw [hnew h0] at hmd
                    have HMD := Lib.hid hmd
                    have eu : (u == 0) = false := by simpa using h0
                    clear hnew hsame hu h0 hmd pf hmo
                    go_wp2_with fail
                    go_region_held3 (fun w' => w'.cell? ⟨g2, m * 3, none⟩ = some (.int .i64 qr) ∧ w'.cell? ⟨g2, m * 3 + 1, none⟩ = some (.bool qw) ∧ w'.cell? ⟨g2, m * 3 + 2, none⟩ = some (.int .i64 qt) ∧ w'.cell? ⟨wr.heap.size, 0, none⟩ = some (.int .i64 pr) ∧ w'.cell? ⟨wr.heap.size, 1, none⟩ = some (.bool pw) ∧ w'.cell? ⟨wr.heap.size, 2, none⟩ = some (.int .i64 pt))
                      (first | exact ⟨p0, p1, p2, c0, c1, c2'⟩ | go_keep)
                      (first | (clear tok3; go_at_call 65; refine (KORD.out _).mono ?_; rintro e w5 ⟨rfl, hb5⟩; clear p0 p1 p2 c0 c1 c2'; have hm5 := HMA2.out.below hb5; obtain ⟨p0, p1, p2, pf⟩ := HAT.out _ hm5; obtain ⟨c0, c1, c2', _⟩ := Blk.three (HKD.out.below hb5 HKR.out); have HM4 := Lib.hid hm5; have HK4 := Lib.hid (HKD.out.below hb5 HKR.out); clear hm5 hb5 pf))
                    obtain ⟨c0, c1, c2, _⟩ := Blk.three HK4.out
                    go_wp2_with (at_builtin; refine wpList_append_sl _ rfl (.tmp 83) (.tmp 85) _ rfl E_otc elOtc_good w3.heap.size _ out rfl (HM4.out.own.alloc elOtc_good _) ⟨w5.heap.size, 0, none⟩ 1 [.int .i64 pr, .bool pw, .int .i64 pt] rfl ⟨pr, pw, pt⟩ rfl (cells_new _ _ _ _) (oneCells rfl) rfl (room1 HOL.out HK1.out).1 (room1 HOL.out HK1.out).2 (base1 HM4.out.hB _) ?_; intro v6 w6 hown6 hg6 hat6; have h6 := (HM4.out.below (Below.alloc (Below.refl _ _) (Nat.le_refl _) (.cells #[.int .i64 pr, .bool pw, .int .i64 pt] 82))).app hown6 hg6; have H6 := Lib.hid h6; clear hown6 hg6 hat6 h6)
                    go_roundw
                    case rel => exact ⟨k + 1, out ++ [⟨pr, pw, pt⟩], by omega, by go_num, H6.out, by have := HOL.out; rw [List.length_append, List.length_singleton]; omega, HBD.out, HMD⟩
                    case measure => simp [intOf]; omega
            · obtain rfl : k = d.length := by omega
              have hml := hmm.out
              rw [List.drop_of_length_le (by rw [HLE.out]; exact Nat.le_refl _), mergeF] at hml
              have HSL := Lib.hid (hmg.own.sl elOtc_good)
              have HML := Lib.hid hml
              have HBE := Lib.hid hmg.bel
              have HBB := Lib.hid (show w.heap.size ≤ w3.heap.size from by have := hmg.hg; omega)
              clear hmg how hmm hml hol
              go_wp2
              go_ret2
              rw [HZZ.out, ← HML.out]
              exact ⟨_, rfl, HSL.out.keep elOtc_good (Same.refl _ _) (fun b hx => ⟨by have := HBB.out; omega, hx.2⟩), HBE.out⟩
        · have hz2 := HZ.out
          rw [norm_sum HN.out hg2 (by rw [← hs2]; exact h16)] at hz2
          have e16 : (s != 16) = true := by simp [h16]
          have HZZ := Lib.hid hz2
          clear hb hss hgd hs2 hg2 hz2 h16
          go_wp2
          go_ret2
          exact otc_nil HB.out HZZ.out
end Go.Proofs.YtjchapoggmipbaaGreatDoor

namespace Go.Proofs.YtjchapoggmipbaaGreatDoor
open Go.RowKit

/-- While the reference gathers: the row of those that are out, and the one that is being weighed in block xb. -/
structure Rx (w W : World) (ov : Value) (out : List Otc) (bb xb : Nat) (r : Nat) (wk : Bool) (x : Int) : Prop where
  bel : Below w.heap.size w W
  own : OwnSl 3 elOtc 82 w.heap.size W ov out
  lt : ∀ b, ov.ownBlock = some b → b < xb
  xk : Blk W xb 82 #[.int .i64 (r : Int), .bool wk, .int .i64 x]
  bk : Blk W bb 4 #[.bool false, .bool true]
  hx : w.heap.size ≤ xb
  hb : bb ≠ xb
/-- The same between two weighings. -/
structure Ry (w W : World) (ov : Value) (out : List Otc) (bb : Nat) : Prop where
  bel : Below w.heap.size w W
  own : OwnSl 3 elOtc 82 w.heap.size W ov out
  bk : Blk W bb 4 #[.bool false, .bool true]
section
variable {w W W' : World} {ov : Value} {out : List Otc} {bb xb r : Nat} {wk : Bool} {x : Int}
theorem Rx.below (h : Rx w W ov out bb xb r wk x) (hb : Below W.heap.size W W') : Rx w W' ov out bb xb r wk x :=
  ⟨h.bel.trans (hb.mono h.bel.size), h.own.below elOtc_good hb, h.lt, h.xk.below hb h.xk.lt, h.bk.below hb h.bk.lt, h.hx, h.hb⟩
theorem Ry.below (h : Ry w W ov out bb) (hb : Below W.heap.size W W') : Ry w W' ov out bb :=
  ⟨h.bel.trans (hb.mono h.bel.size), h.own.below elOtc_good hb, h.bk.below hb h.bk.lt⟩
theorem Rx.put (h : Rx w W ov out bb xb r wk x) (y : Int) : Rx w (W.setCell ⟨xb, 2, none⟩ (.int .i64 y)) ov out bb xb r wk y := by
  have ho := (Only.refl xb W).setCell (p := ⟨xb, 2, none⟩) (.inl rfl) (.int .i64 y)
  refine ⟨h.bel.setCell h.hx _, h.own.grown elOtc_good ho fun b hb e => ?_, h.lt, h.xk.set_ 2 (.int .i64 y), h.bk.far h.hb _, h.hx, h.hb⟩
  have := h.lt b hb
  have := Option.some.inj e
  omega
theorem Ry.start (h : Ry w W ov out bb) (r : Nat) (wk : Bool) (x : Int) : Rx w (W.alloc (.cells #[.int .i64 (r : Int), .bool wk, .int .i64 x] 82)) ov out bb W.heap.size r wk x :=
  ⟨h.bel.alloc h.bel.size _, h.own.alloc elOtc_good _, fun b hb => (h.own.block b hb).2, Blk.new W _ _, h.bk.alloc _, h.bel.size, Nat.ne_of_lt h.bk.lt⟩
theorem Rx.y (h : Rx w W ov out bb xb r wk x) : Ry w W ov out bb := ⟨h.bel, h.own, h.bk⟩
theorem Ry.app {v' : Value} {o : Otc} (h : Ry w W ov out bb) (hbt : bb ≠ xb) (hown : OwnSl 3 elOtc 82 w.heap.size W' v' (out ++ [o])) (hg : W.grownBy W' ov.ownBlock) : Ry w W' v' (out ++ [o]) bb :=
  ⟨below_own h.bel h.own hg (Nat.le_refl _) h.bel.size, hown, h.bk.grown hg fun e => own_ne h.own h.bk (by decide) e⟩
end
end Go.Proofs.YtjchapoggmipbaaGreatDoor

namespace Go.Proofs.YtjchapoggmipbaaGreatDoor
open Go.RowKit

/-- The sixteen cells of the weights f: those without a wicket by runs, then those with one. -/
def wCells (f : Nat → Int) : Array Value := #[.int .i64 (f 0), .int .i64 (f 2), .int .i64 (f 4), .int .i64 (f 6), .int .i64 (f 8), .int .i64 (f 10), .int .i64 (f 12), .int .i64 (f 14), .int .i64 (f 1), .int .i64 (f 3), .int .i64 (f 5), .int .i64 (f 7), .int .i64 (f 9), .int .i64 (f 11), .int .i64 (f 13), .int .i64 (f 15)]
def cellK (j : Nat) : Nat := j / 2 + 8 * (j % 2)
theorem wCells_upd (f : Nat → Int) (j : Nat) (x : Int) (hj : j < 16) : wCells (upd f j x) = (wCells f).setIfInBounds (cellK j) (.int .i64 (f j + x)) := by
  have : j = 0 ∨ j = 1 ∨ j = 2 ∨ j = 3 ∨ j = 4 ∨ j = 5 ∨ j = 6 ∨ j = 7 ∨ j = 8 ∨ j = 9 ∨ j = 10 ∨ j = 11 ∨ j = 12 ∨ j = 13 ∨ j = 14 ∨ j = 15 := by omega
  rcases this with rfl | rfl | rfl | rfl | rfl | rfl | rfl | rfl | rfl | rfl | rfl | rfl | rfl | rfl | rfl | rfl <;> rfl
theorem wCells_at (f : Nat → Int) (j : Nat) (hj : j < 16) : (wCells f)[cellK j]? = some (.int .i64 (f j)) := by
  have : j = 0 ∨ j = 1 ∨ j = 2 ∨ j = 3 ∨ j = 4 ∨ j = 5 ∨ j = 6 ∨ j = 7 ∨ j = 8 ∨ j = 9 ∨ j = 10 ∨ j = 11 ∨ j = 12 ∨ j = 13 ∨ j = 14 ∨ j = 15 := by omega
  rcases this with rfl | rfl | rfl | rfl | rfl | rfl | rfl | rfl | rfl | rfl | rfl | rfl | rfl | rfl | rfl | rfl <;> rfl
theorem plain_at (f : Nat → Int) (r : Nat) (hr : r ≤ 7) : (wCells f)[r]? = some (.int .i64 (f (2 * r))) := by
  have := wCells_at f (2 * r) (by omega)
  rwa [show cellK (2 * r) = r from by unfold cellK; omega] at this
theorem wick_at (f : Nat → Int) (r : Nat) (hr : r ≤ 7) : (wCells f)[8 + r]? = some (.int .i64 (f (2 * r + 1))) := by
  have := wCells_at f (2 * r + 1) (by omega)
  rwa [show cellK (2 * r + 1) = 8 + r from by unfold cellK; omega] at this
theorem plain_upd (f : Nat → Int) (r : Nat) (x : Int) (hr : r ≤ 7) : wCells (upd f (2 * r) x) = (wCells f).setIfInBounds r (.int .i64 (f (2 * r) + x)) := by
  have := wCells_upd f (2 * r) x (by omega)
  rwa [show cellK (2 * r) = r from by unfold cellK; omega] at this
theorem wick_upd (f : Nat → Int) (r : Nat) (x : Int) (hr : r ≤ 7) : wCells (upd f (2 * r + 1) x) = (wCells f).setIfInBounds (8 + r) (.int .i64 (f (2 * r + 1) + x)) := by
  have := wCells_upd f (2 * r + 1) x (by omega)
  rwa [show cellK (2 * r + 1) = 8 + r from by unfold cellK; omega] at this
/-- The weights lie in block g. -/
def WAt (w : World) (g : Nat) (f : Nat → Int) : Prop := Blk w g 171 (wCells f)
theorem WAt.plain {w : World} {g : Nat} {f : Nat → Int} (h : WAt w g f) (r : Nat) (hr : r ≤ 7) : w.cell? ⟨g, r, none⟩ = some (.int .i64 (f (2 * r))) ∧ w.frozen? ⟨g, r, none⟩ = false := ⟨(Blk.cell h r).trans (plain_at f r hr), Blk.frozen h r⟩
theorem WAt.wick {w : World} {g : Nat} {f : Nat → Int} (h : WAt w g f) (r : Nat) (hr : r ≤ 7) : w.cell? ⟨g, 8 + r, none⟩ = some (.int .i64 (f (2 * r + 1))) ∧ w.frozen? ⟨g, 8 + r, none⟩ = false := ⟨(Blk.cell h (8 + r)).trans (wick_at f r hr), Blk.frozen h (8 + r)⟩
theorem WAt.setPlain {w : World} {g : Nat} {f : Nat → Int} (h : WAt w g f) (r : Nat) (x : Int) (hr : r ≤ 7) : WAt (w.setCell ⟨g, r, none⟩ (.int .i64 (f (2 * r) + x))) g (upd f (2 * r) x) := by
  unfold WAt; rw [plain_upd f r x hr]; exact Blk.set_ h r _
theorem WAt.setWick {w : World} {g : Nat} {f : Nat → Int} (h : WAt w g f) (r : Nat) (x : Int) (hr : r ≤ 7) : WAt (w.setCell ⟨g, 8 + r, none⟩ (.int .i64 (f (2 * r + 1) + x))) g (upd f (2 * r + 1) x) := by
  unfold WAt; rw [wick_upd f r x hr]; exact Blk.set_ h (8 + r) _
theorem WAt.drew {w : World} {g : Nat} {f : Nat → Int} (h : WAt w g f) : WAt w.drew g f := Blk.drew h
theorem hard_none {f : Nat → Int} {n : Nat} (h : ∀ s, 0 < s → s ≤ 7 → f (2 * s) = 0) : hardF n f = f ∧ topF f 7 = 0 := by
  have := topF_none (f := f) (m := 7) fun s h1 h2 => h s h1 h2
  exact ⟨by unfold hardF; rw [if_pos this], this⟩
theorem hard_some {f : Nat → Int} {n r : Nat} (h0 : f (2 * r) ≠ 0) (h1 : ∀ s, r < s → s ≤ 7 → f (2 * s) = 0) (h2 : r ≤ 7) (h3 : 1 ≤ r) : hardF n f = upd (upd f (2 * r) (-1)) (n % 2) 1 ∧ topF f 7 = r := by
  have := topF_at h0 h1 h2 h3
  exact ⟨by unfold hardF; rw [this, if_neg (by omega)], this⟩
set_option maxRecDepth 100000 in
set_option maxHeartbeats 2000000 in
theorem w_harder (f : Nat → Int) (n g : Nat) (w : World) (h : WAt w g f) (hf : Fit f) (hn : n ≤ 100) :
    Calls Tryz.prog 106 #[.pointer (some ⟨g, 0, none⟩), .int .i64 n] w fun e w' => e = .returned (.bool (decide (topF f 7 ≠ 0))) ∧ WAt w' g (hardF n f) ∧ Only g w w' := by
  have H := Lib.hid h
  have HF := Lib.hid hf
  obtain ⟨z, hz⟩ : ∃ z, z = decide (topF f 7 ≠ 0) := ⟨_, rfl⟩
  obtain ⟨f9, hf9⟩ : ∃ f9, f9 = hardF n f := ⟨_, rfl⟩
  rw [← hz, ← hf9]
  have HZ := Lib.hid hz
  have HF9 := Lib.hid hf9
  clear h hf hz hf9
  go_enter Tryz.func106, Tryz.ntmps106
  go_wp2
  go_loopw [5] (fun i wr => ∃ r : Nat, r ≤ 7 ∧ i = .int .i64 r ∧ (∃ q, wr = w.drewN q) ∧ Hid (∀ s, r < s → s ≤ 7 → f (2 * s) = 0)) (fun i _ => (intOf i).toNat)
  case atStart => exact ⟨7, Nat.le_refl _, rfl, ⟨0, rfl⟩, Lib.hid fun s h1 h2 => by omega⟩
  case round =>
    obtain ⟨r, hr, rfl, ⟨q, rfl⟩, hz⟩ := hrel
    by_cases h1 : 1 ≤ r
    · obtain ⟨y0, yf⟩ := H.out.plain r hr
      have e1 : (1 : Int) ≤ (r : Int) := by omega
      have e8 : (r : Int) < 8 := by omega
      by_cases h0 : f (2 * r) = 0
      · have e0 : (f (2 * r) == 0) = true := by rw [h0]; rfl
        have hz2 : ∀ s, r - 1 < s → s ≤ 7 → f (2 * s) = 0 := fun s h2 h3 => by
          by_cases hs : s = r
          · rw [hs]; exact h0
          · exact hz.out s (by omega) h3
        have HZ2 := Lib.hid hz2
        clear hz hz2 h0
        go_wp2
        go_roundw
        case rel => exact ⟨r - 1, by omega, by first | go_num | (congr 1; omega), ⟨_, rfl⟩, HZ2⟩
        case measure => simp [intOf]; omega
      · have e0 : (f (2 * r) == 0) = false := by simpa using h0
        have hb0 := HF.out.pos (2 * r) (by omega)
        have hb1 := HF.out.le (j := 2 * r) (by omega)
        obtain ⟨hh, ht⟩ := hard_some (n := n) h0 hz.out hr h1
        have et : decide (topF f 7 ≠ 0) = true := decide_eq_true (by omega)
        have HR := Lib.hid (show z = true ∧ f9 = upd (upd f (2 * r) (-1)) (n % 2) 1 from ⟨by rw [HZ.out, et], by rw [HF9.out, hh]⟩)
        have h00 : upd f (2 * r) (-1) 0 = f 0 := by unfold upd; rw [if_neg (by omega)]
        have h01 : upd f (2 * r) (-1) 1 = f 1 := by unfold upd; rw [if_neg (by omega)]
        have hc0 := HF.out.pos 0 (by omega)
        have hc1 := HF.out.le (j := 0) (by omega)
        have hd0 := HF.out.pos 1 (by omega)
        have hd1 := HF.out.le (j := 1) (by omega)
        have HF1 := Lib.hid (show (∀ W, WAt W g (upd f (2 * r) (-1)) → W.cell? ⟨g, 0, none⟩ = some (.int .i64 (f 0)) ∧ W.frozen? ⟨g, 0, none⟩ = false ∧ W.cell? ⟨g, 8, none⟩ = some (.int .i64 (f 1)) ∧ W.frozen? ⟨g, 8, none⟩ = false ∧ WAt (W.setCell ⟨g, 0, none⟩ (.int .i64 (f 0 + 1))) g (upd (upd f (2 * r) (-1)) 0 1) ∧ WAt (W.setCell ⟨g, 8, none⟩ (.int .i64 (f 1 + 1))) g (upd (upd f (2 * r) (-1)) 1 1)) from fun W hW => by
          have p := hW.plain 0 (by omega)
          have q := hW.wick 0 (by omega)
          have s := hW.setPlain 0 1 (by omega)
          have t := hW.setWick 0 1 (by omega)
          rw [show 2 * 0 = 0 from rfl, h00] at p s
          rw [show 2 * 0 + 1 = 1 from rfl, h01] at q t
          exact ⟨p.1, p.2, q.1, q.2, s, t⟩)
        clear hz h0 hh ht et h00 h01
        have hone : ∀ m : Nat, ∃ W1, W1 = (w.drewN m).setCell ⟨g, r, none⟩ (.int .i64 (f (2 * r) - 1)) ∧ WAt W1 g (upd f (2 * r) (-1)) ∧ Only g w W1 := fun m => ⟨_, rfl, WAt.setPlain (w := w.drewN m) H.out r (-1) hr, ((Only.refl g w).drewN m).setCell (p := ⟨g, r, none⟩) (.inl rfl) _⟩
        rcases Nat.mod_two_eq_zero_or_one n with hm | hm
        · have em : ((n : Int) % 2 == 0) = true := by rw [beq_iff_eq]; omega
          have HM := Lib.hid hm
          obtain ⟨W1, hW1, hw1, ho1⟩ := hone (q + 1)
          have HW := Lib.hid hW1
          have HW1 := Lib.hid hw1
          have HO1 := Lib.hid ho1
          clear hm hone hW1 hw1 ho1
          go_wp2
          go_region
          go_wp2_with fail
          rw [← HW.out]
          obtain ⟨p0, pf, q0, qf, _, _⟩ := HF1.out W1 HW1.out
          go_region
          go_wp2
          go_ret
          exact ⟨ret_b HR.out.1.symm, by rw [HR.out.2, HM.out]; exact (HF1.out W1 HW1.out).2.2.2.2.1.drew, (HO1.out.setCell (p := ⟨g, 0, none⟩) (.inl rfl) _).drew⟩
        · have em : ((n : Int) % 2 == 0) = false := by rw [beq_eq_false_iff_ne]; omega
          have HM := Lib.hid hm
          obtain ⟨W1, hW1, hw1, ho1⟩ := hone (q + 1)
          have HW := Lib.hid hW1
          have HW1 := Lib.hid hw1
          have HO1 := Lib.hid ho1
          clear hm hone hW1 hw1 ho1
          go_wp2
          go_region
          go_wp2_with fail
          rw [← HW.out]
          obtain ⟨p0, pf, q0, qf, _, _⟩ := HF1.out W1 HW1.out
          go_region
          go_wp2
          go_ret
          exact ⟨ret_b HR.out.1.symm, by rw [HR.out.2, HM.out]; exact (HF1.out W1 HW1.out).2.2.2.2.2.drew, (HO1.out.setCell (p := ⟨g, 8, none⟩) (.inl rfl) _).drew⟩
    · obtain rfl : r = 0 := by omega
      obtain ⟨hh, ht⟩ := hard_none (n := n) hz.out
      have HR := Lib.hid (show z = false ∧ f9 = f from ⟨by rw [HZ.out, ht]; rfl, by rw [HF9.out, hh]⟩)
      clear hz hh ht h1
      go_wp2
      go_ret
      exact ⟨ret_b HR.out.1.symm, by rw [HR.out.2]; exact Blk.below H.out (Below.drewN_ (Below.refl w.heap.size w) _) (Blk.lt H.out), (Only.refl g w).drewN _⟩
set_option maxRecDepth 100000 in
set_option maxHeartbeats 2000000 in
theorem w_easier (f : Nat → Int) (g : Nat) (w : World) (h : WAt w g f) (hf : Fit f) :
    Calls Tryz.prog 107 #[.pointer (some ⟨g, 0, none⟩)] w fun e w' => e = .returned (.bool (decide (0 < f 1 ∨ 0 < f 0))) ∧ WAt w' g (easyF f) ∧ Only g w w' := by
  have H := Lib.hid h
  have HF := Lib.hid hf
  obtain ⟨z, hz⟩ : ∃ z, z = decide (0 < f 1 ∨ 0 < f 0) := ⟨_, rfl⟩
  obtain ⟨f9, hf9⟩ : ∃ f9, f9 = easyF f := ⟨_, rfl⟩
  rw [← hz, ← hf9]
  have HZ := Lib.hid hz
  have HF9 := Lib.hid hf9
  clear h hf hz hf9
  obtain ⟨c8, cf8⟩ := H.out.wick 0 (by omega)
  rw [show 2 * 0 + 1 = 1 from rfl, Nat.add_zero] at c8
  rw [Nat.add_zero] at cf8
  obtain ⟨d0, df0⟩ := H.out.plain 0 (by omega)
  rw [show 2 * 0 = 0 from rfl] at d0
  go_enter Tryz.func107, Tryz.ntmps107
  by_cases h1 : 0 < f 1
  · have e1 : decide (0 < f 1) = true := decide_eq_true h1
    have hb0 := HF.out.pos 1 (by omega)
    have hb1 := HF.out.le (j := 1) (by omega)
    have hb2 := HF.out.pos 2 (by omega)
    have hb3 := HF.out.le (j := 2) (by omega)
    have HR := Lib.hid (show z = true ∧ f9 = upd (upd f 1 (-1)) 2 1 from ⟨by rw [HZ.out]; exact decide_eq_true (by omega), by rw [HF9.out]; unfold easyF; rw [if_pos h1]⟩)
    have hw1 : WAt (w.setCell ⟨g, 8, none⟩ (.int .i64 (f 1 - 1))).drew g (upd f 1 (-1)) := (WAt.setWick H.out 0 (-1) (by omega)).drew
    have ho1 : Only g w (w.setCell ⟨g, 8, none⟩ (.int .i64 (f 1 - 1))).drew := ((Only.refl g w).setCell (p := ⟨g, 8, none⟩) (.inl rfl) _).drew
    have h2 : upd f 1 (-1) 2 = f 2 := by unfold upd; rw [if_neg (by omega)]
    have hp := hw1.plain 1 (by omega)
    have hs := hw1.setPlain 1 1 (by omega)
    rw [show 2 * 1 = 2 from rfl, h2] at hp hs
    obtain ⟨W1, hW1⟩ : ∃ W1, W1 = (w.setCell ⟨g, 8, none⟩ (.int .i64 (f 1 - 1))).drew := ⟨_, rfl⟩
    rw [← hW1] at hp hs ho1
    obtain ⟨p0, pf0⟩ := hp
    have HS := Lib.hid hs
    have HO1 := Lib.hid ho1
    have HW := Lib.hid hW1
    clear hw1 ho1 h2 hs hW1
    go_wp2
    go_region
    go_wp2_with fail
    rw [← HW.out]
    go_region
    go_wp2
    go_ret
    exact ⟨ret_b HR.out.1.symm, by rw [HR.out.2]; exact HS.out.drew, (HO1.out.setCell (p := ⟨g, 1, none⟩) (.inl rfl) _).drew⟩
  · have e1 : decide (0 < f 1) = false := decide_eq_false h1
    by_cases h0 : 0 < f 0
    · have e0 : decide (0 < f 0) = true := decide_eq_true h0
      have hb0 := HF.out.pos 0 (by omega)
      have hb1 := HF.out.le (j := 0) (by omega)
      have hb2 := HF.out.pos 2 (by omega)
      have hb3 := HF.out.le (j := 2) (by omega)
      have HR := Lib.hid (show z = true ∧ f9 = upd (upd f 0 (-1)) 2 1 from ⟨by rw [HZ.out]; exact decide_eq_true (by omega), by rw [HF9.out]; unfold easyF; rw [if_neg h1, if_pos h0]⟩)
      have hw1 : WAt (w.setCell ⟨g, 0, none⟩ (.int .i64 (f 0 - 1))).drew g (upd f 0 (-1)) := (WAt.setPlain H.out 0 (-1) (by omega)).drew
      have ho1 : Only g w (w.setCell ⟨g, 0, none⟩ (.int .i64 (f 0 - 1))).drew := ((Only.refl g w).setCell (p := ⟨g, 0, none⟩) (.inl rfl) _).drew
      have h2 : upd f 0 (-1) 2 = f 2 := by unfold upd; rw [if_neg (by omega)]
      have hp := hw1.plain 1 (by omega)
      have hs := hw1.setPlain 1 1 (by omega)
      rw [show 2 * 1 = 2 from rfl, h2] at hp hs
      obtain ⟨W1, hW1⟩ : ∃ W1, W1 = (w.setCell ⟨g, 0, none⟩ (.int .i64 (f 0 - 1))).drew := ⟨_, rfl⟩
      rw [← hW1] at hp hs ho1
      obtain ⟨p0, pf0⟩ := hp
      have HS := Lib.hid hs
      have HO1 := Lib.hid ho1
      have HW := Lib.hid hW1
      clear hw1 ho1 h2 hs hW1
      go_wp2
      go_region
      go_wp2_with fail
      rw [← HW.out]
      go_region
      go_wp2
      go_ret
      exact ⟨ret_b HR.out.1.symm, by rw [HR.out.2]; exact HS.out.drew, (HO1.out.setCell (p := ⟨g, 1, none⟩) (.inl rfl) _).drew⟩
    · have e0 : decide (0 < f 0) = false := decide_eq_false h0
      have HR := Lib.hid (show z = false ∧ f9 = f from ⟨by rw [HZ.out]; exact decide_eq_false (by omega), by rw [HF9.out]; unfold easyF; rw [if_neg h1, if_neg h0]⟩)
      clear h1 h0
      go_wp2
      go_ret
      exact ⟨ret_b HR.out.1.symm, by rw [HR.out.2]; exact H.out, Only.refl g w⟩
end Go.Proofs.YtjchapoggmipbaaGreatDoor

namespace Go.Proofs.YtjchapoggmipbaaGreatDoor

/-- No two outcomes with one key, all runs in range, no weight below 0. -/
structure Uni (l : List Otc) : Prop where
  ne : l.Pairwise fun a b => keyO a ≠ keyO b
  each : ∀ o ∈ l, 0 ≤ o.runs ∧ o.runs ≤ 7 ∧ 0 ≤ o.wt
theorem wAt_set {l : List Otc} {i : Nat} (hi : i < l.length) (a : Otc) (j : Nat) : wAt (l.set i a) j = wAt l j - (if keyO l[i] = j then l[i].wt else 0) + (if keyO a = j then a.wt else 0) := by
  induction l generalizing i with
  | nil => simp at hi
  | cons o l ih =>
    cases i with
    | zero => rw [List.set_cons_zero, wAt_cons, wAt_cons, List.getElem_cons_zero]; omega
    | succ i => rw [List.set_cons_succ, wAt_cons, wAt_cons, List.getElem_cons_succ, ih (by simpa using hi)]; omega
theorem wAt_uni {l : List Otc} (h : Uni l) {i : Nat} (hi : i < l.length) : wAt l (keyO l[i]) = l[i].wt := by
  have hp := List.pairwise_iff_getElem.1 h.ne
  have e : wAt (l.set i { l[i] with wt := 0 }) (keyO l[i]) = 0 := by
    have : ∀ o ∈ l.set i { l[i] with wt := 0 }, (if keyO o = keyO l[i] then o.wt else 0) = 0 := fun o ho => by
      obtain ⟨k, hk, rfl⟩ := List.mem_iff_getElem.1 ho
      rw [List.length_set] at hk
      by_cases hki : k = i
      · subst hki; rw [List.getElem_set_self]; simp
      · rw [List.getElem_set_ne (fun e => hki e.symm)]
        have : keyO l[k] ≠ keyO l[i] := by
          rcases Nat.lt_or_gt_of_ne hki with h1 | h1
          · exact hp k i hk hi h1
          · exact fun e => hp i k hi hk h1 e.symm
        rw [if_neg this]
    unfold wAt
    have h0 : (l.set i { l[i] with wt := 0 }).map (fun o => if keyO o = keyO l[i] then o.wt else 0) = (l.set i { l[i] with wt := 0 }).map (fun _ => 0) := List.map_congr_left this
    rw [h0]
    generalize l.set i { l[i] with wt := 0 } = m
    induction m with
    | nil => rfl
    | cons a m ih => rw [List.map_cons, sumI_cons, ih]; rfl
  rw [wAt_set hi, if_pos rfl] at e
  rw [show keyO { l[i] with wt := 0 } = keyO l[i] from rfl, if_pos rfl] at e
  dsimp only at e
  omega
theorem wAt_zero_of {l : List Otc} {j : Nat} (h : wAt l j ≠ 0) : ∃ i, ∃ hi : i < l.length, keyO l[i] = j := by
  rcases Classical.em (∃ i, ∃ hi : i < l.length, keyO l[i] = j) with h1 | h1
  · exact h1
  · exact absurd (wAt_none fun o ho e => by obtain ⟨i, hi, rfl⟩ := List.mem_iff_getElem.1 ho; exact h1 ⟨i, hi, e⟩) h
theorem Uni.set {l : List Otc} (h : Uni l) {i : Nat} (hi : i < l.length) (x : Int) (hx : 0 ≤ x) : Uni (l.set i { l[i] with wt := x }) := by
  refine ⟨?_, fun o ho => ?_⟩
  · have : (l.set i { l[i] with wt := x }).map keyO = l.map keyO := by
      rw [List.map_set, show keyO { l[i] with wt := x } = keyO l[i] from rfl]
      apply List.ext_getElem
      · simp
      · intro k h1 h2
        rw [List.getElem_set]
        split
        · rename_i e; subst e; simp
        · rfl
    have h2 := List.pairwise_map.2 h.ne
    rw [← this] at h2
    exact List.pairwise_map.1 h2
  · rcases List.mem_or_eq_of_mem_set ho with h1 | h1
    · exact h.each o h1
    · rw [h1]
      have := h.each _ (List.getElem_mem hi)
      exact ⟨this.1, this.2.1, hx⟩
/-- The index of the outcome without a wicket that has the most runs, of the first k. -/
def mostK (d : List Otc) : Nat → Int
  | 0 => -1
  | k + 1 => match d[k]? with
    | none => mostK d k
    | some o => if o.wick = false ∧ 0 < o.runs ∧ 0 < o.wt ∧ (mostK d k < 0 ∨ ((d[(mostK d k).toNat]?).map (·.runs)).getD 0 < o.runs) then (k : Int) else mostK d k
def candM (o : Otc) : Prop := o.wick = false ∧ 0 < o.runs ∧ 0 < o.wt
theorem mostK_at (d : List Otc) : ∀ k, k ≤ d.length → (mostK d k = -1 ∧ ∀ i (hi : i < k) (hd : i < d.length), ¬ candM d[i]) ∨ ∃ i : Nat, ∃ hi : i < d.length, i < k ∧ mostK d k = i ∧ candM d[i] ∧ ∀ s (hs : s < k) (hd : s < d.length), candM d[s] → d[s].runs ≤ d[i].runs
  | 0, _ => .inl ⟨rfl, fun i hi => by omega⟩
  | k + 1, hk => by
    have hkd : k < d.length := by omega
    have hm : mostK d (k + 1) = if d[k].wick = false ∧ 0 < d[k].runs ∧ 0 < d[k].wt ∧ (mostK d k < 0 ∨ ((d[(mostK d k).toNat]?).map (·.runs)).getD 0 < d[k].runs) then (k : Int) else mostK d k := by
      rw [mostK, List.getElem?_eq_getElem hkd]
    rcases mostK_at d k (by omega) with ⟨h1, h2⟩ | ⟨i, hi, hik, h1, h2, h3⟩
    · by_cases hc : candM d[k]
      · refine .inr ⟨k, hkd, by omega, ?_, hc, fun s hs hd hcs => ?_⟩
        · rw [hm, if_pos ⟨hc.1, hc.2.1, hc.2.2, .inl (by omega)⟩]
        · by_cases hsk : s = k
          · subst hsk; exact Int.le_refl _
          · exact absurd hcs (h2 s (by omega) hd)
      · refine .inl ⟨?_, fun s hs hd => ?_⟩
        · rw [hm, if_neg (fun h => hc ⟨h.1, h.2.1, h.2.2.1⟩), h1]
        · by_cases hsk : s = k
          · subst hsk; exact hc
          · exact h2 s (by omega) hd
    · have e : ((d[(mostK d k).toNat]?).map (·.runs)).getD 0 = d[i].runs := by
        rw [h1, Int.toNat_natCast, List.getElem?_eq_getElem hi]; rfl
      rw [e] at hm
      by_cases hc : candM d[k] ∧ d[i].runs < d[k].runs
      · refine .inr ⟨k, hkd, by omega, ?_, hc.1, fun s hs hd hcs => ?_⟩
        · rw [hm, if_pos ⟨hc.1.1, hc.1.2.1, hc.1.2.2, .inr hc.2⟩]
        · by_cases hsk : s = k
          · subst hsk; exact Int.le_refl _
          · have := h3 s (by omega) hd hcs; omega
      · refine .inr ⟨i, hi, by omega, ?_, h2, fun s hs hd hcs => ?_⟩
        · rw [hm, if_neg (fun h => hc ⟨⟨h.1, h.2.1, h.2.2.1⟩, by rcases h.2.2.2 with h4 | h4 <;> omega⟩), h1]
        · by_cases hsk : s = k
          · subst hsk
            rcases Classical.em (d[i].runs < d[s].runs) with h4 | h4
            · exact absurd ⟨hcs, h4⟩ hc
            · omega
          · exact h3 s (by omega) hd hcs
/-- The first outcome of 0 runs, with or without a wicket, that has a weight. -/
def dotF (w : Bool) : List Otc → Nat → Int
  | [], _ => -1
  | o :: l, i => if o.runs = 0 ∧ o.wick = w ∧ 0 < o.wt then (i : Int) else dotF w l (i + 1)
def dotS (d : List Otc) (w : Bool) : Int := dotF w d 0
theorem dotF_at (w : Bool) : ∀ (l : List Otc) (i : Nat), (dotF w l i = -1 ∧ ∀ o ∈ l, ¬ (o.runs = 0 ∧ o.wick = w ∧ 0 < o.wt)) ∨ ∃ k : Nat, ∃ hk : k < l.length, dotF w l i = ((i + k : Nat) : Int) ∧ l[k].runs = 0 ∧ l[k].wick = w ∧ 0 < l[k].wt
  | [], i => .inl ⟨rfl, by simp⟩
  | o :: l, i => by
    rw [dotF]
    by_cases h : o.runs = 0 ∧ o.wick = w ∧ 0 < o.wt
    · rw [if_pos h]; exact .inr ⟨0, by simp, by simp, h⟩
    · rw [if_neg h]
      rcases dotF_at w l (i + 1) with ⟨h1, h2⟩ | ⟨k, hk, h1, h2⟩
      · exact .inl ⟨h1, fun x hx => by
          rcases List.mem_cons.1 hx with rfl | hx
          · exact h
          · exact h2 x hx⟩
      · exact .inr ⟨k + 1, by simpa using hk, by rw [h1]; congr 1; omega, h2⟩
/-- The place of an outcome with these runs, with or without a wicket; the length where there is none. -/
def placeO (r : Int) (w : Bool) : List Otc → Nat
  | [] => 0
  | o :: l => if o.runs = r ∧ o.wick = w then 0 else placeO r w l + 1
theorem placeO_le (r : Int) (w : Bool) : ∀ l : List Otc, placeO r w l ≤ l.length
  | [] => Nat.le_refl _
  | o :: l => by
    rw [placeO]; split
    · omega
    · have := placeO_le r w l; simp; omega
theorem placeO_lt (r : Int) (w : Bool) : ∀ (l : List Otc) (h : placeO r w l < l.length), l[placeO r w l].runs = r ∧ l[placeO r w l].wick = w
  | [], h => by simp [placeO] at h
  | o :: l, h => by
    by_cases ho : o.runs = r ∧ o.wick = w
    · have e : placeO r w (o :: l) = 0 := by rw [placeO, if_pos ho]
      simp only [e, List.getElem_cons_zero]; exact ho
    · have e : placeO r w (o :: l) = placeO r w l + 1 := by rw [placeO, if_neg ho]
      have h' : placeO r w l < l.length := by rw [e] at h; simpa using h
      simp only [e, List.getElem_cons_succ]
      exact placeO_lt r w l h'
theorem placeO_before (r : Int) (w : Bool) : ∀ (l : List Otc) (i : Nat) (h : i < l.length), i < placeO r w l → ¬ (l[i].runs = r ∧ l[i].wick = w)
  | o :: l, i, h, hi => by
    rw [placeO] at hi
    by_cases ho : o.runs = r ∧ o.wick = w
    · rw [if_pos ho] at hi; omega
    · rw [if_neg ho] at hi
      cases i with
      | zero => rw [List.getElem_cons_zero]; exact ho
      | succ i => rw [List.getElem_cons_succ]; exact placeO_before r w l i (by simpa using h) (by omega)
def takeL (d : List Otc) (i : Nat) : List Otc := match d[i]? with
  | none => d
  | some o => d.set i { o with wt := o.wt - 1 }
def giveL (out : List Otc) (r : Int) (w : Bool) : List Otc := match out[placeO r w out]? with
  | some o => out.set (placeO r w out) { o with wt := o.wt + 1 }
  | none => out ++ [⟨r, w, 1⟩]
/-- A unit moved from the i-th outcome to the runs r. -/
def moveL (d : List Otc) (i : Nat) (r : Int) (w : Bool) : List Otc := giveL (takeL d i) r w
theorem takeL_at {d : List Otc} {i : Nat} (h : i < d.length) : takeL d i = d.set i { d[i] with wt := d[i].wt - 1 } := by unfold takeL; rw [List.getElem?_eq_getElem h]
theorem giveL_at {d : List Otc} {r : Int} {w : Bool} (h : placeO r w d < d.length) : giveL d r w = d.set (placeO r w d) { d[placeO r w d] with wt := d[placeO r w d].wt + 1 } := by unfold giveL; rw [List.getElem?_eq_getElem h]
theorem giveL_new {d : List Otc} {r : Int} {w : Bool} (h : ¬ placeO r w d < d.length) : giveL d r w = d ++ [⟨r, w, 1⟩] := by unfold giveL; rw [List.getElem?_eq_none (by omega)]
def keyR (r : Int) (w : Bool) : Nat := keyO ⟨r, w, 0⟩
theorem giveL_law {d : List Otc} (h : Uni d) {r : Int} {w : Bool} (hr : 0 ≤ r ∧ r ≤ 7) : Uni (giveL d r w) ∧ (∀ j, wAt (giveL d r w) j = upd (wAt d) (keyR r w) 1 j) ∧ (giveL d r w).length ≤ d.length + 1 := by
  by_cases hp : placeO r w d < d.length
  · obtain ⟨h1, h2⟩ := placeO_lt r w d hp
    have h0 := h.each _ (List.getElem_mem hp)
    have hk : keyO d[placeO r w d] = keyR r w := (key_eq h0.1 hr.1).2 ⟨h1, h2⟩
    rw [giveL_at hp]
    refine ⟨h.set hp _ (by omega), fun j => ?_, by simp⟩
    rw [wAt_set hp, show keyO { d[placeO r w d] with wt := d[placeO r w d].wt + 1 } = keyO d[placeO r w d] from rfl, hk, upd]
    by_cases hj : j = keyR r w
    · rw [if_pos hj.symm, if_pos hj.symm, if_pos hj]; simp only; omega
    · rw [if_neg (fun e => hj e.symm), if_neg (fun e => hj e.symm), if_neg hj]; omega
  · rw [giveL_new hp]
    have hle := placeO_le r w d
    refine ⟨⟨List.pairwise_append.2 ⟨h.ne, List.pairwise_singleton _ _, fun a ha b hb => ?_⟩, fun o ho => ?_⟩, fun j => ?_, by simp⟩
    · rw [List.mem_singleton.1 hb]
      obtain ⟨i, hi, rfl⟩ := List.mem_iff_getElem.1 ha
      intro e
      have h0 := h.each _ (List.getElem_mem hi)
      exact placeO_before r w d i hi (by omega) ((key_eq (b := ⟨r, w, 1⟩) h0.1 hr.1).1 e)
    · rcases List.mem_append.1 ho with ho | ho
      · exact h.each o ho
      · rw [List.mem_singleton.1 ho]; exact ⟨hr.1, hr.2, by simp⟩
    · rw [wAt_app, wAt_cons, wAt_nil, show keyO ⟨r, w, 1⟩ = keyR r w from rfl, upd]
      by_cases hj : j = keyR r w
      · rw [if_pos hj.symm, if_pos hj]; simp only; omega
      · rw [if_neg (fun e => hj e.symm), if_neg hj]; omega
theorem takeL_law {d : List Otc} (h : Uni d) {i : Nat} (hi : i < d.length) (hw : 0 < d[i].wt) : Uni (takeL d i) ∧ (∀ j, wAt (takeL d i) j = upd (wAt d) (keyO d[i]) (-1) j) ∧ (takeL d i).length = d.length := by
  rw [takeL_at hi]
  refine ⟨h.set hi _ (by omega), fun j => ?_, by simp⟩
  rw [wAt_set hi, show keyO { d[i] with wt := d[i].wt - 1 } = keyO d[i] from rfl, upd]
  by_cases hj : j = keyO d[i]
  · rw [if_pos hj.symm, if_pos hj.symm, if_pos hj]; simp only; omega
  · rw [if_neg (fun e => hj e.symm), if_neg (fun e => hj e.symm), if_neg hj]; omega
theorem moveL_law {d : List Otc} (h : Uni d) {i : Nat} (hi : i < d.length) (hw : 0 < d[i].wt) {r : Int} {w : Bool} (hr : 0 ≤ r ∧ r ≤ 7) :
    Uni (moveL d i r w) ∧ (∀ j, wAt (moveL d i r w) j = upd (upd (wAt d) (keyO d[i]) (-1)) (keyR r w) 1 j) ∧ (moveL d i r w).length ≤ d.length + 1 := by
  obtain ⟨h1, h2, h3⟩ := takeL_law h hi hw
  obtain ⟨h4, h5, h6⟩ := giveL_law h1 (r := r) (w := w) hr
  refine ⟨h4, fun j => ?_, by unfold moveL; omega⟩
  unfold moveL
  rw [h5, upd, upd, h2]
def mostS (d : List Otc) : Int := mostK d d.length
/-- The reference's unit that makes a ball harder, easier. -/
def hardL (k : Nat) (d : List Otc) : List Otc := if 0 ≤ mostS d then moveL d (mostS d).toNat 0 (decide (k % 2 = 1)) else d
def easyI (d : List Otc) : Int := if dotS d true < 0 then dotS d false else dotS d true
def easyL (d : List Otc) : List Otc := if 0 ≤ easyI d then moveL d (easyI d).toNat 1 false else d
theorem key_plain {o : Otc} (h : 0 ≤ o.runs) (hw : o.wick = false) : keyO o = 2 * o.runs.toNat := by unfold keyO; rw [hw]; simp
theorem hardL_law {d : List Otc} (h : Uni d) (k : Nat) : Uni (hardL k d) ∧ wAt (hardL k d) = hardF k (wAt d) ∧ (hardL k d).length ≤ d.length + 1 := by
  unfold hardL mostS
  have nn := fun j => wAt_nonneg (fun o ho => (h.each o ho).2.2) (l := d) j
  rcases mostK_at d d.length (Nat.le_refl _) with ⟨h1, h2⟩ | ⟨i, hi, _, h1, h2, h3⟩
  · rw [h1, if_neg (by omega)]
    refine ⟨h, ?_, by omega⟩
    have ht : topF (wAt d) 7 = 0 := topF_none fun s hs1 hs7 => by
      rcases Classical.em (wAt d (2 * s) = 0) with h0 | h0
      · exact h0
      · obtain ⟨i, hi, hk⟩ := wAt_zero_of h0
        have he := h.each _ (List.getElem_mem hi)
        have hw := wAt_uni h hi
        rw [hk] at hw
        have hr := key_runs he.1
        rw [hk] at hr
        refine absurd ⟨?_, ?_, ?_⟩ (h2 i hi hi)
        · rw [hr.2]; simp
        · rw [hr.1]; omega
        · have := nn (2 * s); omega
    rw [hardF, if_pos ht]
  · rw [h1, if_pos (by omega), Int.toNat_natCast]
    obtain ⟨g1, g2, g3⟩ := moveL_law h hi h2.2.2 (r := 0) (w := decide (k % 2 = 1)) (by omega)
    have he := h.each _ (List.getElem_mem hi)
    have hkey := key_plain he.1 h2.1
    have ht : topF (wAt d) 7 = d[i].runs.toNat := topF_at (by
        rw [← hkey, wAt_uni h hi]; have := h2.2.2; omega) (fun s hs1 hs7 => by
        rcases Classical.em (wAt d (2 * s) = 0) with h0 | h0
        · exact h0
        · obtain ⟨i', hi', hk'⟩ := wAt_zero_of h0
          have he' := h.each _ (List.getElem_mem hi')
          have hw' := wAt_uni h hi'
          rw [hk'] at hw'
          have hr' := key_runs he'.1
          rw [hk'] at hr'
          have := h3 i' hi' hi' ⟨by rw [hr'.2]; simp, by rw [hr'.1]; omega, by have := nn (2 * s); omega⟩
          rw [hr'.1] at this
          omega) (by omega) (by have := h2.2.1; omega)
    refine ⟨g1, ?_, g3⟩
    rw [funext g2, hardF, if_neg (by rw [ht]; have := h2.2.1; omega), ht, hkey]
    congr 1
    unfold keyR keyO
    by_cases hk2 : k % 2 = 1
    · simp [hk2]
    · simp [hk2]; omega
theorem easyL_law {d : List Otc} (h : Uni d) : Uni (easyL d) ∧ wAt (easyL d) = easyF (wAt d) ∧ (easyL d).length ≤ d.length + 1 := by
  have nn := fun j => wAt_nonneg (fun o ho => (h.each o ho).2.2) (l := d) j
  have none : ∀ w : Bool, (∀ o ∈ d, ¬ (o.runs = 0 ∧ o.wick = w ∧ 0 < o.wt)) → wAt d (keyR 0 w) = 0 := fun w hno => by
    rcases Classical.em (wAt d (keyR 0 w) = 0) with h0 | h0
    · exact h0
    · obtain ⟨i, hi, hk⟩ := wAt_zero_of h0
      have he := h.each _ (List.getElem_mem hi)
      have hw := wAt_uni h hi
      rw [hk] at hw
      have := (key_eq (b := ⟨0, w, 0⟩) he.1 (by simp)).1 hk
      exact absurd ⟨this.1, this.2, by have := nn (keyR 0 w); omega⟩ (hno _ (List.getElem_mem hi))
  have k1 : keyR 0 true = 1 := rfl
  have k0 : keyR 0 false = 0 := rfl
  have hit : ∀ (i : Nat) (hi : i < d.length) (w : Bool), d[i].runs = 0 → d[i].wick = w → 0 < d[i].wt → keyO d[i] = keyR 0 w ∧ 0 < wAt d (keyR 0 w) := fun i hi w a b c => by
    have he := h.each _ (List.getElem_mem hi)
    have e : keyO d[i] = keyR 0 w := (key_eq (b := ⟨0, w, 0⟩) he.1 (by simp)).2 ⟨a, b⟩
    have := wAt_uni h hi
    rw [e] at this
    exact ⟨e, by omega⟩
  rcases dotF_at true d 0 with ⟨h1, h2⟩ | ⟨i, hi, h1, ha, hb, hc⟩
  · have z1 := none true h2
    rw [k1] at z1
    have hE : easyI d = dotF false d 0 := by unfold easyI dotS; rw [if_pos (by omega)]
    unfold easyL
    rw [hE]
    rcases dotF_at false d 0 with ⟨h3, h4⟩ | ⟨i, hi, h3, ha, hb, hc⟩
    · have z0 := none false h4
      rw [k0] at z0
      rw [h3, if_neg (by omega)]
      exact ⟨h, by rw [easyF, if_neg (by omega), if_neg (by omega)], by omega⟩
    · obtain ⟨e1, e2⟩ := hit i hi false ha hb hc
      rw [h3, if_pos (by omega), Nat.zero_add, Int.toNat_natCast]
      obtain ⟨g1, g2, g3⟩ := moveL_law h hi hc (r := 1) (w := false) (by omega)
      rw [k0] at e1 e2
      exact ⟨g1, by rw [funext g2, easyF, if_neg (by omega), if_pos e2, e1]; rfl, g3⟩
  · have hE : easyI d = dotF true d 0 := by unfold easyI dotS; rw [if_neg (by omega)]
    unfold easyL
    rw [hE]
    obtain ⟨e1, e2⟩ := hit i hi true ha hb hc
    rw [h1, if_pos (by omega), Nat.zero_add, Int.toNat_natCast]
    obtain ⟨g1, g2, g3⟩ := moveL_law h hi hc (r := 1) (w := false) (by omega)
    rw [k1] at e1 e2
    exact ⟨g1, by rw [funext g2, easyF, if_pos e2, e1]; rfl, g3⟩
theorem Uni.small {l : List Otc} (h : Uni l) (hs : sumK (wAt l) 16 0 = 16) : ∀ o ∈ l, OkN o := fun o ho => by
  have he := h.each o ho
  obtain ⟨i, hi, rfl⟩ := List.mem_iff_getElem.1 ho
  refine ⟨he.1, he.2.1, he.2.2, ?_⟩
  have hk : keyO l[i] < 16 := by unfold keyO; split <;> omega
  have h1 := (sumK_pos 16 0 fun j _ _ => wAt_nonneg (fun o ho => (h.each o ho).2.2) j).2 (keyO l[i]) (by omega) (by omega)
  rw [wAt_uni h hi, hs] at h1
  exact h1
end Go.Proofs.YtjchapoggmipbaaGreatDoor

namespace Go.Proofs.YtjchapoggmipbaaGreatDoor

theorem wAt_one (o : Otc) (j : Nat) : wAt [o] j = if keyO o = j then o.wt else 0 := by rw [wAt_cons, wAt_nil, Int.add_zero]
theorem take_upd {d : List Otc} (hn : Neat d) {k : Nat} (hk : k < d.length) : wAt (d.take (k + 1)) = upd (wAt (d.take k)) (keyO d[k]) d[k].wt ∧ wAt (d.take k) (keyO d[k]) = 0 := by
  have e : d.take (k + 1) = d.take k ++ [d[k]] := by rw [List.take_add_one, List.getElem?_eq_getElem hk]; rfl
  constructor
  · funext j
    rw [e, wAt_app, wAt_one]
    unfold upd
    by_cases h : j = keyO d[k]
    · rw [if_pos h, if_pos h.symm]
    · rw [if_neg h, if_neg fun x => h x.symm, Int.add_zero]
  · refine wAt_none fun o ho => ?_
    obtain ⟨i, hi, rfl⟩ := List.mem_iff_getElem.1 ho
    rw [List.getElem_take]
    have := List.pairwise_iff_getElem.1 hn.asc i k (by rw [List.length_take] at hi; omega) hk (by rw [List.length_take] at hi; omega)
    omega
/-- The first 2m outcomes in the order of their keys. -/
def allF (f : Nat → Int) : Nat → List Otc
  | 0 => []
  | m + 1 => allF f m ++ [⟨(m : Int), false, f (2 * m)⟩, ⟨(m : Int), true, f (2 * m + 1)⟩]
theorem allF_len (f : Nat → Int) : ∀ m, (allF f m).length = 2 * m
  | 0 => rfl
  | m + 1 => by rw [allF, List.length_append, allF_len f m]; rfl
theorem allF_wAt (f : Nat → Int) : ∀ m j, wAt (allF f m) j = if j < 2 * m then f j else 0
  | 0, j => by rw [if_neg (by omega)]; rfl
  | m + 1, j => by
    rw [allF, wAt_app, allF_wAt f m j, wAt_cons, wAt_one]
    have e1 : keyO ⟨(m : Int), false, f (2 * m)⟩ = 2 * m := by unfold keyO; simp
    have e2 : keyO ⟨(m : Int), true, f (2 * m + 1)⟩ = 2 * m + 1 := by unfold keyO; simp
    rw [e1, e2]
    by_cases h1 : j < 2 * m
    · rw [if_pos h1, if_neg (by omega), if_neg (by omega), if_pos (by omega)]; omega
    · rw [if_neg h1]
      by_cases h2 : j = 2 * m
      · subst h2; rw [if_pos rfl, if_neg (by omega), if_pos (by omega)]; dsimp only; omega
      · rw [if_neg (fun e => h2 e.symm)]
        by_cases h3 : j = 2 * m + 1
        · subst h3; rw [if_pos rfl, if_pos (by omega)]; dsimp only; omega
        · rw [if_neg (fun e => h3 e.symm), if_neg (by omega)]; omega
theorem allF_each {f : Nat → Int} (h : Fit f) : ∀ m, m ≤ 8 → ∀ o ∈ allF f m, OkN o
  | 0, _, o, ho => by cases ho
  | m + 1, hm, o, ho => by
    rw [allF, List.mem_append] at ho
    rcases ho with ho | ho
    · exact allF_each h m (by omega) o ho
    · have a1 := h.pos (2 * m) (by omega)
      have a2 := h.pos (2 * m + 1) (by omega)
      have b1 := h.le (j := 2 * m) (by omega)
      have b2 := h.le (j := 2 * m + 1) (by omega)
      simp only [List.mem_cons, List.not_mem_nil, or_false] at ho
      rcases ho with rfl | rfl
      · exact ⟨by show (0 : Int) ≤ m; omega, by show (m : Int) ≤ 7; omega, a1, b1⟩
      · exact ⟨by show (0 : Int) ≤ m; omega, by show (m : Int) ≤ 7; omega, a2, b2⟩
theorem normS_all {f : Nat → Int} (h : Fit f) : normS (allF f 8) = (canon f, 0) := by
  have he := allF_each h 8 (Nat.le_refl _)
  have hw : ∀ j, j < 16 → wAt (allF f 8) j = f j := fun j hj => by rw [allF_wAt, if_pos (by omega)]
  have hs : sumI ((allF f 8).map (·.wt)) = 16 := by
    rw [← sumK_wAt (allF f 8) fun o ho => ⟨(he o ho).r0, (he o ho).r7⟩, sumK_congr (g := f) 16 0 fun j _ h2 => hw j (by omega)]; exact h.sum
  unfold normS
  rw [if_neg (by rw [allF_len]; omega), if_neg, if_neg (by omega), canon_congr hw]
  intro hb
  obtain ⟨o, hx, hb⟩ := List.any_eq_true.1 hb
  rw [okN_good (he o hx)] at hb; cases hb
theorem move_two (f : Nat → Int) (n : Int) : easyK (hardK f n.toNat) (-n).toNat = moveW f n := by
  unfold moveW
  by_cases h : 0 ≤ n
  · rw [if_pos h, show (-n).toNat = 0 from by omega]; rfl
  · rw [if_neg h, show n.toNat = 0 from by omega]; rfl
theorem hard_same {f : Nat → Int} {n k : Nat} (h : topF (hardK f k) 7 = 0) (hk : k ≤ n) : hardK f n = hardK f k := by
  obtain ⟨m, rfl⟩ : ∃ m, n = k + m := ⟨n - k, by omega⟩
  exact hardK_stop h m
theorem easy_same {f : Nat → Int} {n k : Nat} (h : ¬ (0 < easyK f k 1 ∨ 0 < easyK f k 0)) (hk : k ≤ n) : easyK f n = easyK f k := by
  obtain ⟨m, rfl⟩ : ∃ m, n = k + m := ⟨n - k, by omega⟩
  exact easyK_stop (fun x => h (.inl x)) (fun x => h (.inr x)) m
theorem hard_stays {n : Nat} {f : Nat → Int} (h : topF f 7 = 0) : hardF n f = f := by unfold hardF; rw [if_pos h]
theorem easy_stays {f : Nat → Int} (h : ¬ (0 < f 1 ∨ 0 < f 0)) : easyF f = f := by unfold easyF; rw [if_neg fun x => h (.inl x), if_neg fun x => h (.inr x)]
theorem shift_bad {d : List Otc} {n : Int} (h : checkD d ≠ 0) : shiftS d n = ([], checkD d) := by unfold shiftS; rw [if_pos h]
theorem shift_far {d : List Otc} {n : Int} (h : checkD d = 0) (hn : n < -12 ∨ 12 < n) : shiftS d n = ([], 2) := by unfold shiftS; rw [if_neg (by omega), if_pos hn]
end Go.Proofs.YtjchapoggmipbaaGreatDoor

namespace Go.Proofs.YtjchapoggmipbaaGreatDoor
open Go.RowKit

/-- append of two elements, as a step of a region that draws. -/
theorem step_append_two {P : Program} {ops : Array Oper} {o : Oper} {a : Act} {w : World} {K : Act → World → Prop} {Q : Exit → Act → World → Prop} {E : Prop} (hgd : o.guard = none) (s x : Operand) (t : TypeId)
    (ho : o.op = .call { callee := .builtin .append, args := #[s, x], argTypes := #[t, t] })
    {e : TypeId} {size bytes : Nat} (hE : ElemOf P t e size bytes) {α : Type} {R : World → (Nat → Prop) → List Value → α → Prop} (hR : Good R)
    (base : Nat) (v : Value) (l : List α) (hs : a.eval s = v) (hown : OwnSl size R e base w v l)
    (ad : Addr) (c : Nat) (c0 c1 : List Value) (hx : a.eval x = .slice (some ad) 2 c) (x0 x1 : α) (hl0 : c0.length = size) (hl1 : c1.length = size) (hcell : ∀ j u, (c0 ++ c1)[j]? = some u → w.cell? (ad.add j) = some u)
    (h1 : ∀ u ∈ c0 ++ c1, u.oneCell' = true) (hel0 : R w NoG c0 x0) (hel1 : R w NoG c1 x1)
    (h63 : l.length + 2 ≤ maxLen) (hbytes : (l.length + 2) * bytes ≤ 140737488355328) (hbase : base ≤ w.heap.size)
    (h : ∀ v' w', OwnSl size R e base w' v' (l ++ [x0, x1]) → w.grownBy w' v.ownBlock → K (a.put o.dst v') w') :
    if Region.wanted o (yielded ops a.tmps) = true then Oper.wp P o a w K Q else E := by
  have hw : Region.wanted o (yielded ops a.tmps) = true := by simp [Region.wanted, hgd]
  rw [if_pos hw]
  obtain ⟨i, z, e1, e2, e3, e4, e5, e6, e7⟩ := hE
  obtain ⟨css, hlen, ho', hsz, hel'⟩ := hown
  obtain ⟨v', w', hr, h2, h3, _, h4⟩ := run_append_own_at (P := P) w base t o.type e i z size bytes e1 e2 e3 e4 e5 e6 e7 v l.length css.flatten ho' ad 2 c (c0 ++ c1) (by rw [List.length_append]; omega) hcell h1 h63 hbytes hbase
  unfold Oper.wp execOp
  simp only [ho, resolve, invoke, builtin, Sem.run_bind, Sem.run_pure, Result.andThen_ok, List.map_toArray, List.map_cons, List.map_nil, hs, hx, hr]
  have hS : Same NoG w w' := Same.grown h3 fun b hb => hb.elim
  refine h v' w' ⟨css ++ [c0, c1], by simp [hlen], by simpa using h2, fun c hc => ?_, fun i x c hi hc => ?_⟩ h3
  · rcases List.mem_append.1 hc with h | h
    · exact hsz c h
    · simp only [List.mem_cons, List.not_mem_nil, or_false] at h
      rcases h with rfl | rfl
      · exact hl0
      · exact hl1
  · by_cases hil : i < l.length
    · rw [List.getElem?_append_left hil] at hi
      rw [List.getElem?_append_left (by omega)] at hc
      exact hR.keep (hel' i x c hi hc) hS fun _ h => h
    · rw [List.getElem?_append_right (by omega)] at hi
      rw [List.getElem?_append_right (by omega), hlen] at hc
      rcases hj : i - l.length with _ | _ | j
      · rw [hj] at hi hc
        simp at hi hc
        subst hi; subst hc
        exact hR.keep hel0 hS fun _ h => h
      · rw [hj] at hi hc
        simp at hi hc
        subst hi; subst hc
        exact hR.keep hel1 hS fun _ h => h
      · rw [hj] at hi
        simp at hi
/-- The weights f lie in block g, made by this call. -/
structure Wk (w : World) (g : Nat) (W : World) (f : Nat → Int) : Prop where
  bel : Below w.heap.size w W
  hg : w.heap.size ≤ g
  wt : WAt W g f
section
variable {w W W' : World} {g : Nat} {f f' : Nat → Int}
theorem Wk.alloc (h : Wk w g W f) (o : Obj) : Wk w g (W.alloc o) f := ⟨h.bel.alloc h.bel.size o, h.hg, Blk.alloc h.wt o⟩
theorem Wk.drew (h : Wk w g W f) : Wk w g W.drew f := ⟨h.bel.drew, h.hg, h.wt.drew⟩
theorem Wk.only (h : Wk w g W f) (ho : Only g W W') (hw : WAt W' g f') : Wk w g W' f' := ⟨h.bel.trans (ho.below h.hg h.bel.size), h.hg, hw⟩
theorem Wk.below (h : Wk w g W f) (hb : Below W.heap.size W W') : Wk w g W' f := ⟨h.bel.trans (hb.mono h.bel.size), h.hg, Blk.below h.wt hb (Blk.lt h.wt)⟩
theorem Wk.putP (h : Wk w g W f) {r : Nat} (hr : r ≤ 7) (h0 : f (2 * r) = 0) {x : Int} (hf : f' = upd f (2 * r) x) : Wk w g (W.setCell ⟨g, r, none⟩ (.int .i64 x)) f' := by
  have := h.wt.setPlain r x hr
  rw [h0, Int.zero_add] at this
  exact hf ▸ h.only ((Only.refl g W).setCell (p := ⟨g, r, none⟩) (.inl rfl) _) this
theorem Wk.putW (h : Wk w g W f) {r : Nat} (hr : r ≤ 7) (h0 : f (2 * r + 1) = 0) {x : Int} (hf : f' = upd f (2 * r + 1) x) : Wk w g (W.setCell ⟨g, 8 + r, none⟩ (.int .i64 x)) f' := by
  have := h.wt.setWick r x hr
  rw [h0, Int.zero_add] at this
  exact hf ▸ h.only ((Only.refl g W).setCell (p := ⟨g, 8 + r, none⟩) (.inl rfl) _) this
end
theorem wk_new {w W : World} (hb : Below w.heap.size w W) : Wk w W.heap.size (W.alloc (.cells #[.int .i64 0, .int .i64 0, .int .i64 0, .int .i64 0, .int .i64 0, .int .i64 0, .int .i64 0, .int .i64 0, .int .i64 0, .int .i64 0, .int .i64 0, .int .i64 0, .int .i64 0, .int .i64 0, .int .i64 0, .int .i64 0] 171)) fun _ => 0 :=
  ⟨hb.alloc hb.size _, hb.size, Blk.new W _ _⟩
theorem own_drewO {B : Nat} {W : World} {v : Value} {l : List Otc} (h : OwnSl 3 elOtc 82 B W v l) : OwnSl 3 elOtc 82 B W.drew v l := h.below elOtc_good (Below.drew (Below.refl _ _))
theorem room2 (f : Nat → Int) {k : Nat} (hk : k ≤ 8) : (allF f k).length + 2 ≤ maxLen ∧ ((allF f k).length + 2) * 24 ≤ 140737488355328 := by rw [allF_len]; simp only [maxLen]; omega
theorem wAt_none0 (d : List Otc) : wAt (d.take 0) = fun _ => 0 := rfl
set_option maxRecDepth 100000 in
set_option maxHeartbeats 4000000 in
theorem m_Shift (d : List Otc) (v : Value) (n : Int) (w : World) (h : Sl 3 elOtc w (· < w.heap.size) v d) : Calls Tryz.prog 83 #[v, .int .i64 n] w (OtcPost w (shiftS d n)) := by
  obtain ⟨z, hz⟩ : ∃ z, z = shiftS d n := ⟨_, rfl⟩
  rw [← hz]
  obtain ⟨A, c, rfl, hc, hc2⟩ := h.shape
  have kch := ch_Check d _ w h
  have hdl : checkD d = 0 → Neat d ∧ Fit (wAt d) ∧ d.length ≤ 64 := fun h0 => ⟨checkD_neat h0, fit_of h0, by have := (checkD_ok h0).len; omega⟩
  have hbad := fun h0 : checkD d ≠ 0 => shift_bad (n := n) h0
  have hfar := fun (h0 : checkD d = 0) => shift_far (n := n) h0
  have hok := fun (h0 : checkD d = 0) => shift_ok (n := n) h0
  obtain ⟨cd, hcd⟩ : ∃ cd, cd = checkD d := ⟨_, rfl⟩
  rw [← hcd] at kch hdl hbad hfar hok
  have H := Lib.hid h
  have HZ := Lib.hid hz
  have KCH := Lib.hid kch
  clear h hz kch hcd
  go_enter Tryz.func83, Tryz.ntmps83
  by_cases h0 : cd = 0
  · obtain ⟨hn, hf, hl⟩ := hdl h0
    by_cases h1 : n < -12 ∨ 12 < n
    · have hz2 := HZ.out
      rw [hfar h0 h1] at hz2
      have HZ2 := Lib.hid hz2
      have e0 : (cd != 0) = false := by simpa using h0
      clear hz2 hbad hfar hok hdl hn hf hl h0
      rcases h1 with h1 | h1
      · have e1 : decide (n < -12) = true := decide_eq_true h1
        go_wp2_with (go_at_call 39; refine KCH.out.mono ?_; rintro e w1 ⟨rfl, hb1⟩; have HB1 := Lib.hid hb1; clear hb1)
        go_ret2
        exact otc_nil HB1.out HZ2.out
      · have e1 : decide (n < -12) = false := decide_eq_false (by omega)
        have e2 : decide (12 < n) = true := decide_eq_true h1
        go_wp2_with (go_at_call 39; refine KCH.out.mono ?_; rintro e w1 ⟨rfl, hb1⟩; have HB1 := Lib.hid hb1; clear hb1)
        go_ret2
        exact otc_nil HB1.out HZ2.out
    · have hz2 := HZ.out
      rw [hok h0 (by omega) (by omega), ← move_two] at hz2
      have HZ2 := Lib.hid hz2
      have e0 : (cd != 0) = false := by simpa using h0
      have e1 : decide (n < -12) = false := decide_eq_false (by omega)
      have e2 : decide (12 < n) = false := decide_eq_false (by omega)
      have n0 : -12 ≤ n := by omega
      have n1 : n ≤ 12 := by omega
      obtain ⟨f0, hf0⟩ : ∃ f0, f0 = wAt d := ⟨_, rfl⟩
      rw [← hf0] at hf
      have HF0 := Lib.hid hf0
      have HF := Lib.hid hf
      have HN := Lib.hid hn
      have HL := Lib.hid hl
      clear hz2 hbad hfar hok hdl hn hf hl h0 h1 hf0 HZ
      go_upto_block 2 with (go_at_call 39; refine KCH.out.mono ?_; rintro e w1 ⟨rfl, hb1⟩; have HB1 := Lib.hid hb1; clear hb1)
      have hwk := wk_new HB1.out
      rw [← wAt_none0 d] at hwk
      generalize w1.alloc _ = W1 at hwk ⊢
      generalize w1.heap.size = g at hwk ⊢
      have HWK := Lib.hid hwk
      clear hwk HB1 KCH
      go_loopw [27] (fun i wr => ∃ k : Nat, k ≤ d.length ∧ i = .int .i64 k ∧ Hid (Wk w g wr (wAt (d.take k)))) (fun i _ => d.length - (intOf i).toNat)
      case atStart => exact ⟨0, Nat.zero_le _, rfl, HWK⟩
      case round =>
        obtain ⟨k, hk, rfl, hwk⟩ := hrel
        by_cases hlt : k < d.length
        · obtain ⟨b, o, rfl, hbl, y0', y1', y2'⟩ := otc_at H.out hlt
          obtain ⟨hup, hze⟩ := take_upd HN.out hlt
          have hea := HN.out.each _ (List.getElem_mem hlt)
          obtain ⟨⟨pr, pw, pt⟩, hp⟩ : ∃ p, p = d[k] := ⟨_, rfl⟩
          rw [← hp] at y0' y1' y2' hup hze hea
          have y0 := (hwk.out.bel.cell (p := ⟨b, o + k * 3, none⟩) hbl).trans y0'
          have y1 := (hwk.out.bel.cell (p := ⟨b, o + k * 3 + 1, none⟩) hbl).trans y1'
          have y2 := (hwk.out.bel.cell (p := ⟨b, o + k * 3 + 2, none⟩) hbl).trans y2'
          obtain ⟨hr0, hr7, hpt⟩ := hea
          dsimp only at y0 y1 y2 hr0 hr7 hup hze
          obtain ⟨r, rfl⟩ : ∃ r : Nat, pr = (r : Int) := ⟨pr.toNat, by omega⟩
          have hr : r ≤ 7 := by omega
          have hr8 : (r : Int) < 8 := by omega
          have HUP := Lib.hid hup
          have HZE := Lib.hid hze
          have HWR := Lib.hid hwk.out
          clear hup hze hp y0' y1' y2' hwk hpt hr0 hr7
          cases pw with
          | false =>
            have hky : keyO ⟨(r : Int), false, pt⟩ = 2 * r := by unfold keyO; simp
            have hw1 := (HWR.out.alloc (.cells #[.int .i64 r, .bool false, .int .i64 pt] 82)).putP hr (by rw [← hky]; exact HZE.out) (x := pt) (f' := wAt (d.take (k + 1))) (by rw [← hky]; exact HUP.out)
            obtain ⟨p0, pf⟩ := (HWR.out.alloc (.cells #[.int .i64 r, .bool false, .int .i64 pt] 82)).wt.plain r hr
            have HW1 := Lib.hid hw1
            clear hky hw1 HUP HZE
            go_wp2
            go_roundw
            case rel => exact ⟨k + 1, by omega, by go_num, HW1⟩
            case measure => simp [intOf]; omega
          | true =>
            have hky : keyO ⟨(r : Int), true, pt⟩ = 2 * r + 1 := by unfold keyO; simp
            have hw1 := (HWR.out.alloc (.cells #[.int .i64 r, .bool true, .int .i64 pt] 82)).putW hr (by rw [← hky]; exact HZE.out) (x := pt) (f' := wAt (d.take (k + 1))) (by rw [← hky]; exact HUP.out)
            obtain ⟨p0, pf⟩ := (HWR.out.alloc (.cells #[.int .i64 r, .bool true, .int .i64 pt] 82)).wt.wick r hr
            have HW1 := Lib.hid hw1
            clear hky hw1 HUP HZE
            go_wp2
            go_roundw
            case rel => exact ⟨k + 1, by omega, by go_num, HW1⟩
            case measure => simp [intOf]; omega
        · obtain rfl : k = d.length := by omega
          have hw0 := hwk.out
          rw [List.take_of_length_le (Nat.le_refl _), ← HF0.out] at hw0
          have HW0 := Lib.hid hw0
          have hz3 := HZ2.out
          rw [← HF0.out] at hz3
          have KH := Lib.hid fun (k : Nat) (W : World) (h : Wk w g W (hardK f0 k)) (hk : k ≤ 12) => w_harder (hardK f0 k) k g W h.wt (HF.out.hardK k) (by omega)
          obtain ⟨f1, hf1⟩ : ∃ f1, f1 = hardK f0 n.toNat := ⟨_, rfl⟩
          rw [← hf1] at hz3
          have HF1 := Lib.hid hf1
          have HFF := Lib.hid (show Fit f1 from hf1 ▸ HF.out.hardK _)
          have HZ3 := Lib.hid hz3
          clear hwk hw0 hz3 HZ2 HN HF0 hk hlt hf1 HF
          go_upto_block 2 with fail
          go_cut [] (fun wx => Wk w g wx f1)
          case first =>
            go_wp2_with fail
            go_loopw [10] (fun i wr => ∃ k : Nat, (k = 0 ∨ (k : Int) ≤ n) ∧ i = .int .i64 k ∧ Hid (Wk w g wr (hardK f0 k))) (fun i _ => 12 - (intOf i).toNat)
            case atStart => exact ⟨0, .inl rfl, rfl, HW0⟩
            case round =>
              obtain ⟨k, hk, rfl, hwk⟩ := hrel
              have hk12 : k ≤ 12 := by omega
              by_cases hlt : (k : Int) < n
              · have el : decide ((k : Int) < n) = true := decide_eq_true hlt
                have kh := KH.out k _ hwk.out hk12
                by_cases ht : topF (hardK f0 k) 7 = 0
                · have hs : f1 = hardF k (hardK f0 k) := by rw [HF1.out, hard_same ht (by omega), hard_stays ht]
                  rw [show decide (topF (hardK f0 k) 7 ≠ 0) = false from decide_eq_false (by simpa using ht), ← hs] at kh
                  have KHH := Lib.hid kh
                  have HWK := Lib.hid hwk.out
                  clear hwk ht hs kh hk hlt
                  go_wp2_with (go_at_call 106; refine KHH.out.mono ?_; rintro e w2 ⟨rfl, hw2, ho2⟩; have HW2 := Lib.hid (HWK.out.only ho2 hw2); clear hw2 ho2)
                  go_meet
                  exact HW2.out
                · have hs : hardK f0 (k + 1) = hardF k (hardK f0 k) := rfl
                  rw [show decide (topF (hardK f0 k) 7 ≠ 0) = true from decide_eq_true ht, ← hs] at kh
                  have KHH := Lib.hid kh
                  have HWK := Lib.hid hwk.out
                  clear hwk ht hs kh hk
                  go_wp2_with (go_at_call 106; refine KHH.out.mono ?_; rintro e w2 ⟨rfl, hw2, ho2⟩; have HW2 := Lib.hid (HWK.out.only ho2 hw2); clear hw2 ho2)
                  go_roundw
                  case rel => exact ⟨k + 1, .inr (by omega), by go_num, HW2⟩
                  case measure => simp [intOf]; omega
              · have el : decide ((k : Int) < n) = false := decide_eq_false hlt
                have hw1 := hwk.out
                rw [show hardK f0 k = f1 from by rw [HF1.out]; congr 1; omega] at hw1
                have HW1 := Lib.hid hw1
                clear hwk hw1 hk hlt
                go_wp2
                go_meet
                exact HW1.out
          case rest =>
            have HW1 := Lib.hid hcut
            have KE := Lib.hid fun (k : Nat) (W : World) (h : Wk w g W (easyK f1 k)) => w_easier (easyK f1 k) g W h.wt (HFF.out.easyK k)
            have hz4 := HZ3.out
            obtain ⟨f2, hf2⟩ : ∃ f2, f2 = easyK f1 (-n).toNat := ⟨_, rfl⟩
            rw [← hf2] at hz4
            have HF2 := Lib.hid hf2
            have HFI := Lib.hid (show Fit f2 from hf2 ▸ HFF.out.easyK _)
            have HZ4 := Lib.hid hz4
            clear hcut hz4 hf2 HZ3 HFF
            go_upto_block 4 with fail
            go_cut [] (fun wx => Wk w g wx f2)
            case first =>
              go_wp2_with fail
              go_loopw [11] (fun i wr => ∃ k : Nat, (k = 0 ∨ (k : Int) ≤ -n) ∧ i = .int .i64 k ∧ Hid (Wk w g wr (easyK f1 k))) (fun i _ => 12 - (intOf i).toNat)
              case atStart => exact ⟨0, .inl rfl, rfl, HW1⟩
              case round =>
                obtain ⟨k, hk, rfl, hwk⟩ := hrel
                have hk12 : k ≤ 12 := by omega
                by_cases hlt : (k : Int) < -n
                · have el : decide ((k : Int) < -n) = true := decide_eq_true hlt
                  have kh := KE.out k _ hwk.out
                  by_cases ht : 0 < easyK f1 k 1 ∨ 0 < easyK f1 k 0
                  · have hs : easyK f1 (k + 1) = easyF (easyK f1 k) := rfl
                    rw [show decide (0 < easyK f1 k 1 ∨ 0 < easyK f1 k 0) = true from decide_eq_true ht, ← hs] at kh
                    have KHH := Lib.hid kh
                    have HWK := Lib.hid hwk.out
                    clear hwk ht hs kh hk
                    go_wp2_with (go_at_call 107; refine KHH.out.mono ?_; rintro e w2 ⟨rfl, hw2, ho2⟩; have HW2 := Lib.hid (HWK.out.only ho2 hw2); clear hw2 ho2)
                    go_roundw
                    case rel => exact ⟨k + 1, .inr (by omega), by go_num, HW2⟩
                    case measure => simp [intOf]; omega
                  · have hs : f2 = easyF (easyK f1 k) := by rw [HF2.out, easy_same ht (by omega), easy_stays ht]
                    rw [show decide (0 < easyK f1 k 1 ∨ 0 < easyK f1 k 0) = false from decide_eq_false ht, ← hs] at kh
                    have KHH := Lib.hid kh
                    have HWK := Lib.hid hwk.out
                    clear hwk ht hs kh hk hlt
                    go_wp2_with (go_at_call 107; refine KHH.out.mono ?_; rintro e w2 ⟨rfl, hw2, ho2⟩; have HW2 := Lib.hid (HWK.out.only ho2 hw2); clear hw2 ho2)
                    go_meet
                    exact HW2.out
                · have el : decide ((k : Int) < -n) = false := decide_eq_false hlt
                  have hw1 := hwk.out
                  rw [show easyK f1 k = f2 from by rw [HF2.out]; congr 1; omega] at hw1
                  have HW1 := Lib.hid hw1
                  clear hwk hw1 hk hlt
                  go_wp2
                  go_meet
                  exact HW1.out
            case rest =>
              have HW2 := Lib.hid hcut
              clear hcut HF2 KE HF1 KH HW1 HW0
              have hgw : g < wc.heap.size := Blk.lt HW2.out.wt
              have KN := Lib.hid fun (v : Value) (W : World) (h : Sl 3 elOtc W (· < W.heap.size) v (allF f2 8)) => (normS_all HFI.out) ▸ ch_Norm (allF f2 8) v W h
              have tok0 : True := trivial
              go_wp2_with fail
              go_loopw [64, 12] (fun i ov wr => ∃ k : Nat, k ≤ 8 ∧ i = .int .i64 k ∧ Hid (Below wc.heap.size wc wr) ∧ Hid (OwnSl 3 elOtc 82 wc.heap.size wr ov (allF f2 k))) (fun i _ _ => 8 - (intOf i).toNat)
              case atStart => exact ⟨0, by omega, rfl, Lib.hid (Below.refl _ _), Lib.hid (OwnSl.nil _)⟩
              case round =>
                obtain ⟨k, hk, rfl, HB, HO⟩ := hrel
                by_cases hlt : k < 8
                · have hwk := HW2.out.below HB.out
                  obtain ⟨p0, _⟩ := hwk.wt.plain k (by omega)
                  obtain ⟨p1, _⟩ := hwk.wt.wick k (by omega)
                  have hk8 : (k : Int) < 8 := by omega
                  have hsz := HB.out.size
                  have hrm := room2 f2 hk
                  have HRM := Lib.hid hrm
                  obtain ⟨A3, c3, rfl⟩ := own_len HO.out
                  obtain ⟨ob, hob⟩ : ∃ ob : Obj, ob = (.cells #[.int .i64 k, .bool false, .int .i64 (f2 (2 * k)), .int .i64 k, .bool true, .int .i64 (f2 (2 * k + 1))] 82) := ⟨_, rfl⟩
                  have hap : ∀ w6 : World, (wr.alloc ob).drew.grownBy w6 (Value.slice A3 (allF f2 k).length c3).ownBlock → Below wc.heap.size wc w6 := fun w6 hg6 =>
                    below_own (Below.drew (Below.alloc HB.out hsz ob)) (own_drewO (HO.out.alloc elOtc_good ob)) hg6 (Nat.le_refl _) (base1 hsz ob)
                  rw [hob] at hap
                  have HAP := Lib.hid hap
                  clear hap hob
                  clear hwk hrm
                  go_wp2_with fail
                  go_region_law ((refine step_append_two rfl (.tmp 67) (.tmp 80) _ rfl E_otc elOtc_good wc.heap.size (.slice A3 (allF f2 k).length c3) (allF f2 k) rfl (own_drewO (HO.out.alloc elOtc_good _)) ⟨wr.heap.size, 0, none⟩ 2 [.int .i64 k, .bool false, .int .i64 (f2 (2 * k))] [.int .i64 k, .bool true, .int .i64 (f2 (2 * k + 1))] rfl ⟨k, false, f2 (2 * k)⟩ ⟨k, true, f2 (2 * k + 1)⟩ rfl rfl (cells_new _ _ _ _) (oneCells rfl) rfl rfl HRM.out.1 HRM.out.2 (base1 hsz _) ?_); intro v6 w6 hown6 hg6; have HB6 := Lib.hid (HAP.out w6 hg6); have HO6 := Lib.hid hown6; clear hown6 hg6)
                  all_goals
                    go_wp2_with fail
                    go_roundw
                    case rel => exact ⟨k + 1, by omega, by go_num, HB6, HO6⟩
                    case measure => simp [intOf]; omega
                · obtain rfl : k = 8 := by omega
                  have HSL := Lib.hid ((HO.out.sl elOtc_good).keep elOtc_good (G := (· < wr.heap.size)) (Same.refl _ _) fun b h => h.2)
                  have HBE := Lib.hid (HW2.out.below HB.out).bel
                  clear hk hlt HO HB
                  go_wp2_with (clear tok0; go_at_call 108; refine (KN.out _ _ HSL.out).mono ?_; rintro e w7 ⟨v7, rfl, hs7, hb7⟩; have HS7 := Lib.hid hs7; have HB7 := Lib.hid hb7; clear hs7 hb7)
                  go_ret2
                  rw [HZ4.out]
                  exact ⟨v7, rfl, HS7.out.keep elOtc_good (Same.refl _ _) (fun b hx => ⟨Nat.le_trans HBE.out.size hx.1, hx.2⟩), HBE.out.trans (HB7.out.mono HBE.out.size)⟩
  · have hz2 := HZ.out
    rw [hbad h0] at hz2
    have HZ2 := Lib.hid hz2
    have e0 : (cd != 0) = true := by simp [h0]
    clear hz2 hbad hfar hok hdl h0
    go_wp2_with (go_at_call 39; refine KCH.out.mono ?_; rintro e w1 ⟨rfl, hb1⟩; have HB1 := Lib.hid hb1; clear hb1)
    go_ret2
    exact otc_nil HB1.out (by rw [HZ2.out])
end Go.Proofs.YtjchapoggmipbaaGreatDoor

namespace Go.Proofs.YtjchapoggmipbaaGreatDoor
open Go.RowKit

end Go.Proofs.YtjchapoggmipbaaGreatDoor

namespace Go.Proofs.YtjchapoggmipbaaGreatDoor
open Go.RowKit

/-- Whie the reference moves a unit: the box lies in block w.heap.size, the row is younger. -/
structure Mv (w W : World) (ov : Value) (out : List Otc) (r : Int) (wk : Bool) : Prop where
  bel : Below w.heap.size w W
  own : OwnSl 3 elOtc 82 (w.heap.size + 1) W ov out
  xk : Blk W w.heap.size 82 #[.int .i64 r, .bool wk, .int .i64 0]
section
variable {w W W' : World} {ov : Value} {out : List Otc} {r : Int} {wk : Bool} {g n c : Nat}
theorem Mv.below (h : Mv w W ov out r wk) (hb : Below W.heap.size W W') : Mv w W' ov out r wk := ⟨h.bel.trans (hb.mono h.bel.size), h.own.below elOtc_good hb, h.xk.below hb h.xk.lt⟩
theorem Mv.gt (h : Mv w W (.slice (some ⟨g, 0, none⟩) n c) out r wk) : w.heap.size < g := (h.own.block g rfl).1
theorem own_put {B k : Nat} (h : OwnSl 3 elOtc 82 B W (.slice (some ⟨g, 0, none⟩) n c) out) (hk : k < out.length) (x : Int) : OwnSl 3 elOtc 82 B (W.setCell ⟨g, k * 3 + 2, none⟩ (.int .i64 x)) (.slice (some ⟨g, 0, none⟩) n c) (out.set k { out[k] with wt := x }) :=
  OwnG.put h (fun _ _ _ h => h) hk (show 2 < 3 by decide) (.int .i64 x) { out[k] with wt := x } fun c9 w9 h9 => by rw [show c9 = _ from h9]; rfl
theorem Mv.put {k : Nat} (h : Mv w W (.slice (some ⟨g, 0, none⟩) n c) out r wk) (hk : k < out.length) (x : Int) : Mv w (W.setCell ⟨g, k * 3 + 2, none⟩ (.int .i64 x)) (.slice (some ⟨g, 0, none⟩) n c) (out.set k { out[k] with wt := x }) r wk := by
  have hg := h.gt
  exact ⟨h.bel.setCell (by show w.heap.size ≤ g; omega) _, own_put h.own hk x, h.xk.far (by show w.heap.size ≠ g; omega) _⟩
end
def MvPost (w : World) (l : List Otc) (e : Ending) (w' : World) : Prop := ∃ v, e = .returned v ∧ Sl 3 elOtc w' (· < w'.heap.size) v l ∧ Below w.heap.size w w'
theorem Mv.post {w W : World} {ov : Value} {out : List Otc} {B : Nat} (hb : Below w.heap.size w W) (ho : OwnSl 3 elOtc 82 B W ov out) : MvPost w out (.returned ov) W := ⟨ov, rfl, (ho.sl elOtc_good).keep elOtc_good (Same.refl _ _) fun _ h => h.2, hb⟩
end Go.Proofs.YtjchapoggmipbaaGreatDoor

namespace Go.Proofs.YtjchapoggmipbaaGreatDoor
open Go.RowKit

/-- While the reference shifts: the list that lies is fit to be moved in. -/
structure Sf (w W : World) (v : Value) (l : List Otc) (n : Nat) : Prop where
  bel : Below w.heap.size w W
  sl : Sl 3 elOtc W (· < W.heap.size) v l
  uni : Uni l
  sum : sumK (wAt l) 16 0 = 16
  len : l.length ≤ 16 + n
theorem Sf.ok {w W : World} {v : Value} {l : List Otc} {n : Nat} (h : Sf w W v l n) : ∀ o ∈ l, OkN o := h.uni.small h.sum
theorem Sf.below {w W W' : World} {v : Value} {l : List Otc} {n : Nat} (h : Sf w W v l n) (hb : Below W.heap.size W W') : Sf w W' v l n :=
  ⟨h.bel.trans (hb.mono h.bel.size), h.sl.keep elOtc_good (Same.of_below hb) fun _ hx => Nat.lt_of_lt_of_le hx hb.size, h.uni, h.sum, h.len⟩
theorem fit_uni {l : List Otc} (h : Uni l) (hs : sumK (wAt l) 16 0 = 16) : Fit (wAt l) := ⟨fun j _ => wAt_nonneg (fun o ho => (h.each o ho).2.2) j, hs⟩
theorem Sf.hard {w W W' : World} {v v' : Value} {l : List Otc} {n : Nat} (h : Sf w W v l n) (k : Nat) (hp : ∃ v, Ending.returned v' = .returned v ∧ Sl 3 elOtc W' (· < W'.heap.size) v (hardL k l) ∧ Below W.heap.size W W') : Sf w W' v' (hardL k l) (n + 1) := by
  obtain ⟨v2, e, hs, hb⟩ := hp
  injection e with e
  subst e
  obtain ⟨h1, h2, h3⟩ := hardL_law h.uni k
  exact ⟨h.bel.trans (hb.mono h.bel.size), hs, h1, by rw [h2]; exact ((fit_uni h.uni h.sum).hard k).sum, by have := h.len; omega⟩
theorem Sf.easy {w W W' : World} {v v' : Value} {l : List Otc} {n : Nat} (h : Sf w W v l n) (hp : ∃ v, Ending.returned v' = .returned v ∧ Sl 3 elOtc W' (· < W'.heap.size) v (easyL l) ∧ Below W.heap.size W W') : Sf w W' v' (easyL l) (n + 1) := by
  obtain ⟨v2, e, hs, hb⟩ := hp
  injection e with e
  subst e
  obtain ⟨h1, h2, h3⟩ := easyL_law h.uni
  exact ⟨h.bel.trans (hb.mono h.bel.size), hs, h1, by rw [h2]; exact (fit_uni h.uni h.sum).easy.sum, by have := h.len; omega⟩
theorem Sf.more {w W : World} {v : Value} {l : List Otc} {n m : Nat} (h : Sf w W v l n) (hm : n ≤ m) : Sf w W v l m := ⟨h.bel, h.sl, h.uni, h.sum, by have := h.len; omega⟩
end Go.Proofs.YtjchapoggmipbaaGreatDoor

namespace Go.Proofs.YtjchapoggmipbaaGreatDoor
open Go.RowKit

theorem S_beq (a b : List UInt8) : (a == b) = decide (a = b) := by by_cases h : a = b <;> simp [h]
set_option maxRecDepth 100000 in
theorem bat_clo (x y : List UInt8) (v : Value) (g : Nat) (w : World) (h : w.cell? ⟨g, 0, none⟩ = some (.string (S x))) (hg : g < w.heap.size) :
    Calls Tryz.prog 101 #[.agg #[.string (S y), v], .pointer (some ⟨g, 0, none⟩)] w fun e w' => e = .returned (.bool (decide (y = x))) ∧ Below w.heap.size w w' := by
  have e1 := S_beq y x
  have hc : (w.alloc (.cells #[.string (S y), v] 68)).cell? ⟨g, 0, none⟩ = some (.string (S x)) := (World.cell?_alloc_lt w _ ⟨g, 0, none⟩ hg).trans h
  clear h
  go_enter Tryz.func101, Tryz.ntmps101
  go_wp2
  go_ret
  exact ⟨rfl, (Below.refl _ _).alloc (Nat.le_refl _) _⟩
theorem bat_drop {l : List Bat} {x : List UInt8} {z : Int} {k : Nat} (hk : k < l.length) (h : z = indexF x ((l.drop k).map (·.name)) k) : z = if l[k].name = x then (k : Int) else indexF x ((l.drop (k + 1)).map (·.name)) (k + 1) := by
  rw [drop_get hk, List.map_cons, indexF] at h; exact h
set_option maxRecDepth 100000 in
set_option maxHeartbeats 2000000 in
theorem bat_IndexFunc (l : List Bat) (lv : Value) (x : List UInt8) (g : Nat) (w : World) (hl : Sl 2 elBat w (· < w.heap.size) lv l) (h : w.cell? ⟨g, 0, none⟩ = some (.string (S x))) (hg : g < w.heap.size) :
    Calls Tryz.prog 100 #[lv, .func (.func 101) #[] #[.pointer (some ⟨g, 0, none⟩)]] w fun e w' => e = .returned (.int .i64 (batI l x)) ∧ Below w.heap.size w w' := by
  obtain ⟨z, hz⟩ : ∃ z, z = batI l x := ⟨_, rfl⟩
  rw [← hz]
  obtain ⟨A, c, rfl, hc, hc2⟩ := hl.shape
  have HZ : Hid (z = indexF x ((l.drop 0).map (·.name)) 0) := hz
  have HL := Lib.hid hl
  have HH := Lib.hid h
  have HG := Lib.hid hg
  have HB := Lib.hid (Below.refl w.heap.size w)
  clear hz hl h hg
  go_enter Tryz.func100, Tryz.ntmps100
  go_wp2
  go_loopw [8] (fun i wr => ∃ k : Nat, k ≤ l.length ∧ i = .int .i64 k ∧ Below w.heap.size w wr ∧ Hid (z = indexF x ((l.drop k).map (·.name)) k)) (fun i _ => l.length - (intOf i).toNat)
  case atStart => exact ⟨0, Nat.zero_le _, rfl, HB.out, HZ⟩
  case round =>
    obtain ⟨k, hk, rfl, hb, hzz⟩ := hrel
    have HBB := Lib.hid hb
    have KC := Lib.hid (fun (y : List UInt8) (v : Value) => bat_clo x y v g wr ((hb.cell (p := ⟨g, 0, none⟩) HG.out).trans HH.out) (Nat.lt_of_lt_of_le HG.out hb.size))
    by_cases hlt : k < l.length
    · obtain ⟨b0, o, v, rfl, hbl, yy0, yy1, _, _⟩ := bat_at HL.out hlt
      have y0 := (hb.cell (p := ⟨b0, o + k * 2, none⟩) hbl).trans yy0
      have y1 := (hb.cell (p := ⟨b0, o + k * 2 + 1, none⟩) hbl).trans yy1
      obtain ⟨p, hp⟩ : ∃ p, p = l[k].name := ⟨_, rfl⟩
      have hz2 := bat_drop hlt hzz.out
      rw [← hp] at hz2 y0
      clear hb hzz hp yy0 yy1
      by_cases hin : p = x
      · rw [if_pos hin] at hz2
        have e1 : decide (p = x) = true := decide_eq_true hin
        have HZZ := Lib.hid hz2
        clear hz2 hin
        go_wp2_with (go_at_call 101; refine (KC.out _ _).mono ?_; rintro e w2 ⟨rfl, hb2⟩; rw [e1]; have HB2 := Lib.hid (HBB.out.trans (hb2.mono HBB.out.size)); clear hb2)
        go_ret
        exact ⟨ret_i HZZ.out.symm, HB2.out⟩
      · rw [if_neg hin] at hz2
        have e1 : decide (p = x) = false := decide_eq_false hin
        have HZZ := Lib.hid hz2
        clear hz2 hin
        go_wp2_with (go_at_call 101; refine (KC.out _ _).mono ?_; rintro e w2 ⟨rfl, hb2⟩; rw [e1]; have HB2 := Lib.hid (HBB.out.trans (hb2.mono HBB.out.size)); clear hb2)
        go_roundw
        case rel => exact ⟨k + 1, by omega, by go_num, HB2.out, HZZ⟩
        case measure => simp [intOf]; omega
    · obtain rfl : k = l.length := by omega
      have hz2 := hzz.out
      rw [List.drop_of_length_le (Nat.le_refl _), List.map_nil, indexF] at hz2
      have HZZ := Lib.hid hz2
      clear hb hzz hz2
      go_wp2
      go_ret
      exact ⟨ret_i HZZ.out.symm, HBB.out⟩
set_option maxRecDepth 100000 in
set_option maxHeartbeats 2000000 in
theorem m_Batter (m : Mdl) (bv wv : Value) (x : List UInt8) (w : World) (h : MdlAt w (· < w.heap.size) bv wv m) :
    Calls Tryz.prog 76 #[.agg #[bv, wv], .string (S x)] w fun e w' => e = .returned (.int .i64 (batI m.bats x)) ∧ Below w.heap.size w w' := by
  obtain ⟨z, hz⟩ : ∃ z, z = batI m.bats x := ⟨_, rfl⟩
  have hb1 : Below w.heap.size w (w.alloc (.cells #[bv, wv] 25)) := Below.alloc (Below.refl _ _) (Nat.le_refl _) _
  have hb2 : Below w.heap.size w ((w.alloc (.cells #[bv, wv] 25)).alloc (.cells #[.string (S x)] 9)) := hb1.alloc hb1.size _
  have hm := h.below hb2
  have hk := bat_IndexFunc m.bats _ x (w.heap.size + 1) _ hm.bat (by have := (Blk.new (w.alloc (.cells #[bv, wv] 25)) 9 #[.string (S x)]).cell 0; rw [World.size_alloc] at this; exact this) (by simp)
  rw [← hz] at hk ⊢
  have HK := Lib.hid hk
  have HB := Lib.hid hb2
  clear hz hb1 hb2 hm hk h
  go_enter Tryz.func76, Tryz.ntmps76
  go_wp2_with (go_at_call 100; refine HK.out.mono ?_; rintro e w2 ⟨rfl, hb⟩; have HB2 := Lib.hid (HB.out.trans (hb.mono HB.out.size)); clear hb)
  go_ret
  exact ⟨rfl, HB2.out⟩
set_option maxRecDepth 100000 in
theorem bow_clo (x y : List UInt8) (v : Value) (g : Nat) (w : World) (h : w.cell? ⟨g, 0, none⟩ = some (.string (S x))) (hg : g < w.heap.size) :
    Calls Tryz.prog 103 #[.agg #[.string (S y), v], .pointer (some ⟨g, 0, none⟩)] w fun e w' => e = .returned (.bool (decide (y = x))) ∧ Below w.heap.size w w' := by
  have e1 := S_beq y x
  have hc : (w.alloc (.cells #[.string (S y), v] 143)).cell? ⟨g, 0, none⟩ = some (.string (S x)) := (World.cell?_alloc_lt w _ ⟨g, 0, none⟩ hg).trans h
  clear h
  go_enter Tryz.func103, Tryz.ntmps103
  go_wp2
  go_ret
  exact ⟨rfl, (Below.refl _ _).alloc (Nat.le_refl _) _⟩
theorem bow_drop {l : List Bow} {x : List UInt8} {z : Int} {k : Nat} (hk : k < l.length) (h : z = indexF x ((l.drop k).map (·.name)) k) : z = if l[k].name = x then (k : Int) else indexF x ((l.drop (k + 1)).map (·.name)) (k + 1) := by
  rw [drop_get hk, List.map_cons, indexF] at h; exact h
set_option maxRecDepth 100000 in
set_option maxHeartbeats 2000000 in
theorem bow_IndexFunc (l : List Bow) (lv : Value) (x : List UInt8) (g : Nat) (w : World) (hl : Sl 2 elBow w (· < w.heap.size) lv l) (h : w.cell? ⟨g, 0, none⟩ = some (.string (S x))) (hg : g < w.heap.size) :
    Calls Tryz.prog 102 #[lv, .func (.func 103) #[] #[.pointer (some ⟨g, 0, none⟩)]] w fun e w' => e = .returned (.int .i64 (bowI l x)) ∧ Below w.heap.size w w' := by
  obtain ⟨z, hz⟩ : ∃ z, z = bowI l x := ⟨_, rfl⟩
  rw [← hz]
  obtain ⟨A, c, rfl, hc, hc2⟩ := hl.shape
  have HZ : Hid (z = indexF x ((l.drop 0).map (·.name)) 0) := hz
  have HL := Lib.hid hl
  have HH := Lib.hid h
  have HG := Lib.hid hg
  have HB := Lib.hid (Below.refl w.heap.size w)
  clear hz hl h hg
  go_enter Tryz.func102, Tryz.ntmps102
  go_wp2
  go_loopw [8] (fun i wr => ∃ k : Nat, k ≤ l.length ∧ i = .int .i64 k ∧ Below w.heap.size w wr ∧ Hid (z = indexF x ((l.drop k).map (·.name)) k)) (fun i _ => l.length - (intOf i).toNat)
  case atStart => exact ⟨0, Nat.zero_le _, rfl, HB.out, HZ⟩
  case round =>
    obtain ⟨k, hk, rfl, hb, hzz⟩ := hrel
    have HBB := Lib.hid hb
    have KC := Lib.hid (fun (y : List UInt8) (v : Value) => bow_clo x y v g wr ((hb.cell (p := ⟨g, 0, none⟩) HG.out).trans HH.out) (Nat.lt_of_lt_of_le HG.out hb.size))
    by_cases hlt : k < l.length
    · obtain ⟨b0, o, rfl, hbl, yy0, yy1, _⟩ := bow_at HL.out hlt
      have y0 := (hb.cell (p := ⟨b0, o + k * 2, none⟩) hbl).trans yy0
      have y1 := (hb.cell (p := ⟨b0, o + k * 2 + 1, none⟩) hbl).trans yy1
      obtain ⟨sh, hsh⟩ : ∃ s, s = l[k].shift := ⟨_, rfl⟩
      rw [← hsh] at y1
      obtain ⟨p, hp⟩ : ∃ p, p = l[k].name := ⟨_, rfl⟩
      have hz2 := bow_drop hlt hzz.out
      rw [← hp] at hz2 y0
      clear hb hzz hp yy0 yy1 hsh
      by_cases hin : p = x
      · rw [if_pos hin] at hz2
        have e1 : decide (p = x) = true := decide_eq_true hin
        have HZZ := Lib.hid hz2
        clear hz2 hin
        go_wp2_with (go_at_call 103; refine (KC.out _ _).mono ?_; rintro e w2 ⟨rfl, hb2⟩; rw [e1]; have HB2 := Lib.hid (HBB.out.trans (hb2.mono HBB.out.size)); clear hb2)
        go_ret
        exact ⟨ret_i HZZ.out.symm, HB2.out⟩
      · rw [if_neg hin] at hz2
        have e1 : decide (p = x) = false := decide_eq_false hin
        have HZZ := Lib.hid hz2
        clear hz2 hin
        go_wp2_with (go_at_call 103; refine (KC.out _ _).mono ?_; rintro e w2 ⟨rfl, hb2⟩; rw [e1]; have HB2 := Lib.hid (HBB.out.trans (hb2.mono HBB.out.size)); clear hb2)
        go_roundw
        case rel => exact ⟨k + 1, by omega, by go_num, HB2.out, HZZ⟩
        case measure => simp [intOf]; omega
    · obtain rfl : k = l.length := by omega
      have hz2 := hzz.out
      rw [List.drop_of_length_le (Nat.le_refl _), List.map_nil, indexF] at hz2
      have HZZ := Lib.hid hz2
      clear hb hzz hz2
      go_wp2
      go_ret
      exact ⟨ret_i HZZ.out.symm, HBB.out⟩
set_option maxRecDepth 100000 in
set_option maxHeartbeats 2000000 in
theorem m_Bowler (m : Mdl) (bv wv : Value) (x : List UInt8) (w : World) (h : MdlAt w (· < w.heap.size) bv wv m) :
    Calls Tryz.prog 77 #[.agg #[bv, wv], .string (S x)] w fun e w' => e = .returned (.int .i64 (bowI m.bows x)) ∧ Below w.heap.size w w' := by
  obtain ⟨z, hz⟩ : ∃ z, z = bowI m.bows x := ⟨_, rfl⟩
  have hb1 : Below w.heap.size w (w.alloc (.cells #[bv, wv] 25)) := Below.alloc (Below.refl _ _) (Nat.le_refl _) _
  have hb2 : Below w.heap.size w ((w.alloc (.cells #[bv, wv] 25)).alloc (.cells #[.string (S x)] 9)) := hb1.alloc hb1.size _
  have hm := h.below hb2
  have hk := bow_IndexFunc m.bows _ x (w.heap.size + 1) _ hm.bow (by have := (Blk.new (w.alloc (.cells #[bv, wv] 25)) 9 #[.string (S x)]).cell 0; rw [World.size_alloc] at this; exact this) (by simp)
  rw [← hz] at hk ⊢
  have HK := Lib.hid hk
  have HB := Lib.hid hb2
  clear hz hb1 hb2 hm hk h
  go_enter Tryz.func77, Tryz.ntmps77
  go_wp2_with (go_at_call 102; refine HK.out.mono ?_; rintro e w2 ⟨rfl, hb⟩; have HB2 := Lib.hid (HB.out.trans (hb.mono HB.out.size)); clear hb)
  go_ret
  exact ⟨rfl, HB2.out⟩
end Go.Proofs.YtjchapoggmipbaaGreatDoor

namespace Go.Proofs.YtjchapoggmipbaaGreatDoor
open Go.RowKit

end Go.Proofs.YtjchapoggmipbaaGreatDoor

namespace Go.Proofs.YtjchapoggmipbaaGreatDoor
open Go.RowKit

/-- A model boxed in block g, a copy of an element in block B. -/
structure TwoM (w W : World) (g B : Nat) (t : TypeId) (bv wv x v : Value) : Prop where
  bel : Below w.heap.size w W
  box : Blk W g 25 #[bv, wv]
  el : Blk W B t #[x, v]
theorem Blk.duo {w : World} {g : Nat} {t : TypeId} {a b : Value} (h : Blk w g t #[a, b]) : w.cell? ⟨g, 0, none⟩ = some a ∧ w.cell? ⟨g, 1, none⟩ = some b ∧ w.frozen? ⟨g, 0, none⟩ = false ∧ w.frozen? ⟨g, 1, none⟩ = false := ⟨h.cell 0, h.cell 1, h.frozen 0, h.frozen 1⟩
theorem TwoM.below {w W W' : World} {g B : Nat} {t : TypeId} {bv wv x v : Value} (h : TwoM w W g B t bv wv x v) (hb : Below W.heap.size W W') : TwoM w W' g B t bv wv x v := ⟨h.bel.trans (hb.mono h.bel.size), h.box.below hb h.box.lt, h.el.below hb h.el.lt⟩
theorem TwoM.cells {w W : World} {g B : Nat} {t : TypeId} {bv wv x v : Value} (h : TwoM w W g B t bv wv x v) : W.cell? ⟨g, 0, none⟩ = some bv ∧ W.cell? ⟨g, 1, none⟩ = some wv ∧ W.cell? ⟨B, 0, none⟩ = some x ∧ W.cell? ⟨B, 1, none⟩ = some v := ⟨h.box.duo.1, h.box.duo.2.1, h.el.duo.1, h.el.duo.2.1⟩
theorem TwoM.new {w W : World} {g : Nat} {bv wv : Value} (hb : Below w.heap.size w W) (hx : Blk W g 25 #[bv, wv]) (t : TypeId) (x v : Value) : TwoM w (W.alloc (.cells #[x, v] t)) g W.heap.size t bv wv x v := ⟨hb.alloc hb.size _, hx.alloc _, Blk.new _ _ _⟩
theorem bat_ways (pre : List (List UInt8)) (b : Bat) : (nameS b.name = false ∧ batErr pre b = 5) ∨ (nameS b.name = true ∧ decide (b.name ∈ pre) = true ∧ batErr pre b = 7) ∨ (nameS b.name = true ∧ decide (b.name ∈ pre) = false ∧ batErr pre b = checkD b.dist) := by
  unfold batErr
  cases h1 : nameS b.name
  · exact .inl ⟨rfl, by simp⟩
  · by_cases h2 : b.name ∈ pre
    · exact .inr (.inl ⟨rfl, by simp [h2], by rw [if_neg (by simp), if_pos h2]⟩)
    · exact .inr (.inr ⟨rfl, by simp [h2], by rw [if_neg (by simp), if_neg h2]⟩)
theorem bow_ways (pre : List (List UInt8)) (b : Bow) : (nameS b.name = false ∧ bowErr pre b = 5) ∨ (nameS b.name = true ∧ decide (b.name ∈ pre) = true ∧ bowErr pre b = 7) ∨ (nameS b.name = true ∧ decide (b.name ∈ pre) = false ∧ b.shift < -12 ∧ bowErr pre b = 2) ∨ (nameS b.name = true ∧ decide (b.name ∈ pre) = false ∧ ¬ b.shift < -12 ∧ 12 < b.shift ∧ bowErr pre b = 2) ∨ (nameS b.name = true ∧ decide (b.name ∈ pre) = false ∧ ¬ b.shift < -12 ∧ ¬ 12 < b.shift ∧ bowErr pre b = 0) := by
  unfold bowErr
  cases h1 : nameS b.name
  · exact .inl ⟨rfl, by simp⟩
  · by_cases h2 : b.name ∈ pre
    · exact .inr (.inl ⟨rfl, by simp [h2], by rw [if_neg (by simp), if_pos h2]⟩)
    · by_cases h3 : b.shift < -12
      · exact .inr (.inr (.inl ⟨rfl, by simp [h2], h3, by rw [if_neg (by simp), if_neg h2, if_pos (.inl h3)]⟩))
      · by_cases h4 : 12 < b.shift
        · exact .inr (.inr (.inr (.inl ⟨rfl, by simp [h2], h3, h4, by rw [if_neg (by simp), if_neg h2, if_pos (.inr h4)]⟩)))
        · exact .inr (.inr (.inr (.inr ⟨rfl, by simp [h2], h3, h4, by rw [if_neg (by simp), if_neg h2, if_neg (by omega)]⟩)))
/-- What is left of a check: the batters from k on, then the bowlers. -/
def restM (m : Mdl) (k : Nat) : Int := if batsF ((m.bats.take k).map (·.name)) (m.bats.drop k) ≠ 0 then batsF ((m.bats.take k).map (·.name)) (m.bats.drop k) else bowsF [] m.bows
def restW (m : Mdl) (k : Nat) : Int := bowsF ((m.bows.take k).map (·.name)) (m.bows.drop k)
theorem restM_at {m : Mdl} {k : Nat} (hk : k < m.bats.length) : restM m k = if batErr ((m.bats.take k).map (·.name)) m.bats[k] ≠ 0 then batErr ((m.bats.take k).map (·.name)) m.bats[k] else restM m (k + 1) := by
  unfold restM
  rw [batsF_at hk]
  by_cases h : batErr ((m.bats.take k).map (·.name)) m.bats[k] ≠ 0
  · simp only [if_pos h]
  · rw [if_neg h, if_neg h]
theorem restM_end {m : Mdl} : restM m m.bats.length = restW m 0 := by
  unfold restM restW
  rw [List.drop_of_length_le (Nat.le_refl _), batsF, if_neg (by simp)]
  simp
theorem restW_at {m : Mdl} {k : Nat} (hk : k < m.bows.length) : restW m k = if bowErr ((m.bows.take k).map (·.name)) m.bows[k] ≠ 0 then bowErr ((m.bows.take k).map (·.name)) m.bows[k] else restW m (k + 1) := bowsF_at hk
theorem restW_end {m : Mdl} : restW m m.bows.length = 0 := by
  unfold restW
  rw [List.drop_of_length_le (Nat.le_refl _), bowsF]
theorem checkM_rest {m : Mdl} (h1 : ¬ (m.bats.length = 0 ∨ m.bows.length = 0)) (h2 : ¬ (11 < m.bats.length ∨ 11 < m.bows.length)) : checkM m = restM m 0 := by
  unfold checkM restM
  rw [if_neg h1, if_neg h2]; simp
set_option maxRecDepth 100000 in
set_option maxHeartbeats 4000000 in
theorem m_Check (m : Mdl) (bv wv : Value) (w : World) (h : MdlAt w (· < w.heap.size) bv wv m) :
    Calls Tryz.prog 50 #[.agg #[bv, wv]] w fun e w' => e = .returned (.int .i64 (checkM m)) ∧ Below w.heap.size w w' := by
  obtain ⟨z, hz⟩ : ∃ z, z = checkM m := ⟨_, rfl⟩
  rw [← hz]
  obtain ⟨A, c, rfl, hc, hc2⟩ := h.bat.shape
  obtain ⟨A', c', rfl, hc', hc2'⟩ := h.bow.shape
  have HM := Lib.hid h
  have hb1 : Below w.heap.size w (w.alloc (.cells #[.slice A m.bats.length c, .slice A' m.bows.length c'] 25)) := Below.alloc (Below.refl _ _) (Nat.le_refl _) _
  have hx1 := Blk.new w 25 #[.slice A m.bats.length c, .slice A' m.bows.length c']
  by_cases h1 : m.bats.length = 0 ∨ m.bows.length = 0
  · have HZ := Lib.hid (show z = 6 by rw [hz]; unfold checkM; rw [if_pos h1])
    have HB1 := Lib.hid hb1
    clear hz h hb1 hx1
    by_cases h2 : m.bats.length = 0
    · have e1 : ((m.bats.length : Int) == 0) = true := beq_iff_eq.2 (by omega)
      have h3 := Lib.hid h2
      clear h1 h2
      go_enter Tryz.func50, Tryz.ntmps50
      go_wp2
      go_ret
      exact ⟨ret_i HZ.out.symm, HB1.out⟩
    · have e1 : ((m.bats.length : Int) == 0) = false := beq_eq_false_iff_ne.2 (by omega)
      have e2 : ((m.bows.length : Int) == 0) = true := beq_iff_eq.2 (by omega)
      have h3 := Lib.hid h2
      clear h1 h2
      go_enter Tryz.func50, Tryz.ntmps50
      go_wp2
      go_ret
      exact ⟨ret_i HZ.out.symm, HB1.out⟩
  have e1 : ((m.bats.length : Int) == 0) = false := beq_eq_false_iff_ne.2 (by omega)
  have e2 : ((m.bows.length : Int) == 0) = false := beq_eq_false_iff_ne.2 (by omega)
  by_cases h2 : 11 < m.bats.length ∨ 11 < m.bows.length
  · have HZ := Lib.hid (show z = 9 by rw [hz]; unfold checkM; rw [if_neg h1, if_pos h2])
    have HB1 := Lib.hid hb1
    clear hz h hb1 hx1 h1
    by_cases h3 : 11 < m.bats.length
    · have e3 : (11 : Int) < (m.bats.length : Int) := by omega
      clear h2 h3
      go_enter Tryz.func50, Tryz.ntmps50
      go_wp2
      go_ret
      exact ⟨ret_i HZ.out.symm, HB1.out⟩
    · have e3 : ¬ (11 : Int) < (m.bats.length : Int) := by omega
      have e4 : (11 : Int) < (m.bows.length : Int) := by omega
      clear h2 h3
      go_enter Tryz.func50, Tryz.ntmps50
      go_wp2
      go_ret
      exact ⟨ret_i HZ.out.symm, HB1.out⟩
  have HZ0 := Lib.hid (show z = restM m 0 by rw [hz, checkM_rest h1 h2])
  have e3 : ¬ (11 : Int) < (m.bats.length : Int) := by omega
  have e4 : ¬ (11 : Int) < (m.bows.length : Int) := by omega
  have HB1 := Lib.hid hb1
  have HX1 := Lib.hid hx1
  clear hz h hb1 hx1 h1 h2
  go_enter Tryz.func50, Tryz.ntmps50
  go_wp2
  go_loopw [33] (fun i wr => ∃ k : Nat, k ≤ m.bats.length ∧ i = .int .i64 k ∧ Hid (Below w.heap.size w wr ∧ Blk wr w.heap.size 25 #[.slice A m.bats.length c, .slice A' m.bows.length c']) ∧ Hid (z = restM m k)) (fun i _ => m.bats.length - (intOf i).toNat)
  case atStart => exact ⟨0, Nat.zero_le _, rfl, Lib.hid ⟨HB1.out, HX1.out⟩, HZ0⟩
  case round =>
    clear HB1 HX1
    obtain ⟨k, hk, rfl, HW, hzz⟩ := hrel
    obtain ⟨r0, r1, _, _⟩ := HW.out.2.duo
    by_cases hlt : k < m.bats.length
    · obtain ⟨b0, o, v, rfl, hbl, yy0, yy1, hv, hpl⟩ := bat_at HM.out.bat hlt
      have y0 := (HW.out.1.cell (p := ⟨b0, o + k * 2, none⟩) hbl).trans yy0
      have y1 := (HW.out.1.cell (p := ⟨b0, o + k * 2 + 1, none⟩) hbl).trans yy1
      have hz2 := hzz.out
      rw [restM_at hlt] at hz2
      have hbf := batI_before hlt
      have hw := bat_ways ((m.bats.take k).map (·.name)) m.bats[k]
      obtain ⟨⟨p, d⟩, hp⟩ : ∃ b, b = m.bats[k] := ⟨_, rfl⟩
      rw [← hp] at y0 hv hpl hz2 hbf hw
      dsimp only at y0 hv hpl hbf hw
      obtain ⟨A2, c2, hve, _, _⟩ := hv.shape
      obtain ⟨n2, hn2⟩ : ∃ n, n = d.length := ⟨_, rfl⟩
      rw [← hn2] at hve
      subst hve
      generalize (m.bats.take k).map (·.name) = pre at hz2 hbf hw
      have hx := TwoM.new HW.out.1 HW.out.2 68 (.string (S p)) (.slice A2 n2 c2)
      obtain ⟨x0, x1, x2, x3⟩ := hx.cells
      have HX := Lib.hid hx
      clear hzz hp yy0 yy1 hx
      have tok0 : True := trivial
      have kb : ∀ W, Below w.heap.size w W → Calls Tryz.prog 76 #[.agg #[.slice (some ⟨b0, o, none⟩) m.bats.length c, .slice A' m.bows.length c'], .string (S p)] W fun e W' => e = .returned (.int .i64 (batI m.bats p)) ∧ Below W.heap.size W W' := fun W hW => m_Batter m _ _ p W (HM.out.below hW)
      have kd : ∀ W, Below w.heap.size w W → Calls Tryz.prog 39 #[.slice A2 n2 c2] W fun e W' => e = .returned (.int .i64 (checkD d)) ∧ Below W.heap.size W W' := fun W hW => ch_Check d _ W (hv.keep elOtc_good (Same.of_below hW) fun b h => Nat.lt_of_lt_of_le h hW.size)
      obtain ⟨i, hi⟩ : ∃ i, i = batI m.bats p := ⟨_, rfl⟩
      obtain ⟨u, hu⟩ : ∃ u, u = checkD d := ⟨_, rfl⟩
      rw [← hi] at kb hbf
      rw [← hu] at kd hw
      have KB := Lib.hid kb
      have KD := Lib.hid kd
      clear kb kd hi hu hn2
      rcases hw with ⟨hnm, he⟩ | ⟨hnm, hin, he⟩ | ⟨hnm, hin, he⟩
      · rw [he, if_pos (by decide)] at hz2
        have kn : ∀ W, Calls Tryz.prog 75 #[.string (S p)] W fun e W' => e = .returned (.bool false) ∧ Below W.heap.size W W' := fun W => (text_Name (S p) W (by rw [S_size]; exact hpl)).mono fun e W' h => by rw [S_data, hnm] at h; exact h
        have KN := Lib.hid kn
        have HZZ := Lib.hid hz2
        clear kn hz2 he hnm hbf hv hpl
        go_wp2_with (first
          | (clear tok0; go_at_call 75; refine (KN.out _).mono ?_; rintro e w2 ⟨rfl, hb2⟩; have HX2 := Lib.hid (HX.out.below hb2); obtain ⟨p0, p1, p2, p3⟩ := HX2.out.cells; clear hb2; have tok1 : True := trivial))
        go_ret
        exact ⟨ret_i HZZ.out.symm, HX2.out.bel⟩
      · rw [he, if_pos (by decide)] at hz2
        have kn : ∀ W, Calls Tryz.prog 75 #[.string (S p)] W fun e W' => e = .returned (.bool true) ∧ Below W.heap.size W W' := fun W => (text_Name (S p) W (by rw [S_size]; exact hpl)).mono fun e W' h => by rw [S_data, hnm] at h; exact h
        have KN := Lib.hid kn
        have HZZ := Lib.hid hz2
        rw [hin] at hbf
        clear kn hz2 he hnm hin hv hpl
        go_wp2_with (first
          | (clear tok0; go_at_call 75; refine (KN.out _).mono ?_; rintro e w2 ⟨rfl, hb2⟩; have HX2 := Lib.hid (HX.out.below hb2); obtain ⟨p0, p1, p2, p3⟩ := HX2.out.cells; clear hb2; have tok1 : True := trivial)
          | (clear tok1; go_at_call 76; refine (KB.out _ HX2.out.bel).mono ?_; rintro e w3 ⟨rfl, hb3⟩; have HX3 := Lib.hid (HX2.out.below hb3); obtain ⟨q0, q1, q2, q3⟩ := HX3.out.cells; clear hb3; have tok2 : True := trivial))
        go_ret
        exact ⟨ret_i HZZ.out.symm, HX3.out.bel⟩
      · rw [he] at hz2
        have kn : ∀ W, Calls Tryz.prog 75 #[.string (S p)] W fun e W' => e = .returned (.bool true) ∧ Below W.heap.size W W' := fun W => (text_Name (S p) W (by rw [S_size]; exact hpl)).mono fun e W' h => by rw [S_data, hnm] at h; exact h
        have KN := Lib.hid kn
        rw [hin] at hbf
        by_cases hu0 : u = 0
        · rw [if_neg (by simp [hu0])] at hz2
          have eu : (u != 0) = false := by simp [hu0]
          have HZZ := Lib.hid hz2
          clear kn hz2 he hnm hin hu0 hv hpl
          go_wp2_with (first
          | (clear tok0; go_at_call 75; refine (KN.out _).mono ?_; rintro e w2 ⟨rfl, hb2⟩; have HX2 := Lib.hid (HX.out.below hb2); obtain ⟨p0, p1, p2, p3⟩ := HX2.out.cells; clear hb2; have tok1 : True := trivial)
          | (clear tok1; go_at_call 76; refine (KB.out _ HX2.out.bel).mono ?_; rintro e w3 ⟨rfl, hb3⟩; have HX3 := Lib.hid (HX2.out.below hb3); obtain ⟨q0, q1, q2, q3⟩ := HX3.out.cells; clear hb3; have tok2 : True := trivial)
          | (clear tok2; go_at_call 39; refine (KD.out _ HX3.out.bel).mono ?_; rintro e w4 ⟨rfl, hb4⟩; have HX4 := Lib.hid (HX3.out.below hb4); clear hb4; have tok3 : True := trivial))
          go_roundw
          case rel => exact ⟨k + 1, by omega, by go_num, Lib.hid ⟨HX4.out.bel, HX4.out.box⟩, HZZ⟩
          case measure => simp [intOf]; omega
        · rw [if_pos hu0] at hz2
          have eu : (u != 0) = true := by simp [hu0]
          have HZZ := Lib.hid hz2
          clear kn hz2 he hnm hin hu0 hv hpl
          go_wp2_with (first
          | (clear tok0; go_at_call 75; refine (KN.out _).mono ?_; rintro e w2 ⟨rfl, hb2⟩; have HX2 := Lib.hid (HX.out.below hb2); obtain ⟨p0, p1, p2, p3⟩ := HX2.out.cells; clear hb2; have tok1 : True := trivial)
          | (clear tok1; go_at_call 76; refine (KB.out _ HX2.out.bel).mono ?_; rintro e w3 ⟨rfl, hb3⟩; have HX3 := Lib.hid (HX2.out.below hb3); obtain ⟨q0, q1, q2, q3⟩ := HX3.out.cells; clear hb3; have tok2 : True := trivial)
          | (clear tok2; go_at_call 39; refine (KD.out _ HX3.out.bel).mono ?_; rintro e w4 ⟨rfl, hb4⟩; have HX4 := Lib.hid (HX3.out.below hb4); clear hb4; have tok3 : True := trivial))
          go_ret
          exact ⟨ret_i HZZ.out.symm, HX4.out.bel⟩
    · obtain rfl : k = m.bats.length := by omega
      have hz2 := hzz.out
      rw [restM_end] at hz2
      have HZ1 := Lib.hid hz2
      have HW1 := HW
      clear hzz hz2 HW HZ0
      obtain ⟨wo, rfl⟩ : ∃ wo : World, wo = wr := ⟨_, rfl⟩
      go_wp2
      go_loopw [60] (fun i wr => ∃ k : Nat, k ≤ m.bows.length ∧ i = .int .i64 k ∧ Hid (Below w.heap.size w wr ∧ Blk wr w.heap.size 25 #[.slice A m.bats.length c, .slice A' m.bows.length c']) ∧ Hid (z = restW m k)) (fun i _ => m.bows.length - (intOf i).toNat)
      case atStart => exact ⟨0, Nat.zero_le _, rfl, HW1, HZ1⟩
      case round =>
        clear HW1 HZ1 r0 r1
        obtain ⟨k, hk, rfl, HW, hzz⟩ := hrel
        obtain ⟨r0, r1, _, _⟩ := HW.out.2.duo
        by_cases hlt : k < m.bows.length
        · obtain ⟨b0, o, rfl, hbl, yy0, yy1, hpl⟩ := bow_at HM.out.bow hlt
          have y0 := (HW.out.1.cell (p := ⟨b0, o + k * 2, none⟩) hbl).trans yy0
          have y1 := (HW.out.1.cell (p := ⟨b0, o + k * 2 + 1, none⟩) hbl).trans yy1
          have hz2 := hzz.out
          rw [restW_at hlt] at hz2
          have hbf := bowI_before hlt
          have hw := bow_ways ((m.bows.take k).map (·.name)) m.bows[k]
          obtain ⟨⟨p, d⟩, hp⟩ : ∃ b, b = m.bows[k] := ⟨_, rfl⟩
          rw [← hp] at y0 y1 hpl hz2 hbf hw
          dsimp only at y0 y1 hpl hbf hw
          generalize (m.bows.take k).map (·.name) = pre at hz2 hbf hw
          have hx := TwoM.new HW.out.1 HW.out.2 143 (.string (S p)) (.int .i64 d)
          obtain ⟨x0, x1, x2, x3⟩ := hx.cells
          have HX := Lib.hid hx
          clear hzz hp yy0 yy1 hx
          have tok0 : True := trivial
          have kb : ∀ W, Below w.heap.size w W → Calls Tryz.prog 77 #[.agg #[.slice A m.bats.length c, .slice (some ⟨b0, o, none⟩) m.bows.length c'], .string (S p)] W fun e W' => e = .returned (.int .i64 (bowI m.bows p)) ∧ Below W.heap.size W W' := fun W hW => m_Bowler m _ _ p W (HM.out.below hW)
          obtain ⟨i, hi⟩ : ∃ i, i = bowI m.bows p := ⟨_, rfl⟩
          rw [← hi] at kb hbf
          have KB := Lib.hid kb
          clear kb hi
          rcases hw with ⟨hnm, he⟩ | ⟨hnm, hin, he⟩ | ⟨hnm, hin, hs, he⟩ | ⟨hnm, hin, hs, hs2, he⟩ | ⟨hnm, hin, hs, hs2, he⟩
          · rw [he, if_pos (by decide)] at hz2
            have kn : ∀ W, Calls Tryz.prog 75 #[.string (S p)] W fun e W' => e = .returned (.bool false) ∧ Below W.heap.size W W' := fun W => (text_Name (S p) W (by rw [S_size]; exact hpl)).mono fun e W' h => by rw [S_data, hnm] at h; exact h
            have KN := Lib.hid kn
            have HZZ := Lib.hid hz2
            clear kn hz2 he hnm hbf hpl
            go_wp2_with (first
          | (clear tok0; go_at_call 75; refine (KN.out _).mono ?_; rintro e w2 ⟨rfl, hb2⟩; have HX2 := Lib.hid (HX.out.below hb2); obtain ⟨p0, p1, p2, p3⟩ := HX2.out.cells; clear hb2; have tok1 : True := trivial))
            go_ret
            exact ⟨ret_i HZZ.out.symm, HX2.out.bel⟩
          · rw [he, if_pos (by decide)] at hz2
            have kn : ∀ W, Calls Tryz.prog 75 #[.string (S p)] W fun e W' => e = .returned (.bool true) ∧ Below W.heap.size W W' := fun W => (text_Name (S p) W (by rw [S_size]; exact hpl)).mono fun e W' h => by rw [S_data, hnm] at h; exact h
            have KN := Lib.hid kn
            have HZZ := Lib.hid hz2
            rw [hin] at hbf
            clear kn hz2 he hnm hin hpl
            go_wp2_with (first
          | (clear tok0; go_at_call 75; refine (KN.out _).mono ?_; rintro e w2 ⟨rfl, hb2⟩; have HX2 := Lib.hid (HX.out.below hb2); obtain ⟨p0, p1, p2, p3⟩ := HX2.out.cells; clear hb2; have tok1 : True := trivial)
          | (clear tok1; go_at_call 77; refine (KB.out _ HX2.out.bel).mono ?_; rintro e w3 ⟨rfl, hb3⟩; have HX3 := Lib.hid (HX2.out.below hb3); obtain ⟨q0, q1, q2, q3⟩ := HX3.out.cells; clear hb3; have tok2 : True := trivial))
            go_ret
            exact ⟨ret_i HZZ.out.symm, HX3.out.bel⟩
          · rw [he, if_pos (by decide)] at hz2
            have kn : ∀ W, Calls Tryz.prog 75 #[.string (S p)] W fun e W' => e = .returned (.bool true) ∧ Below W.heap.size W W' := fun W => (text_Name (S p) W (by rw [S_size]; exact hpl)).mono fun e W' h => by rw [S_data, hnm] at h; exact h
            have KN := Lib.hid kn
            have HZZ := Lib.hid hz2
            rw [hin] at hbf
            clear kn hz2 he hnm hin hpl
            go_wp2_with (first
          | (clear tok0; go_at_call 75; refine (KN.out _).mono ?_; rintro e w2 ⟨rfl, hb2⟩; have HX2 := Lib.hid (HX.out.below hb2); obtain ⟨p0, p1, p2, p3⟩ := HX2.out.cells; clear hb2; have tok1 : True := trivial)
          | (clear tok1; go_at_call 77; refine (KB.out _ HX2.out.bel).mono ?_; rintro e w3 ⟨rfl, hb3⟩; have HX3 := Lib.hid (HX2.out.below hb3); obtain ⟨q0, q1, q2, q3⟩ := HX3.out.cells; clear hb3; have tok2 : True := trivial))
            go_ret
            exact ⟨ret_i HZZ.out.symm, HX3.out.bel⟩
          · rw [he, if_pos (by decide)] at hz2
            have kn : ∀ W, Calls Tryz.prog 75 #[.string (S p)] W fun e W' => e = .returned (.bool true) ∧ Below W.heap.size W W' := fun W => (text_Name (S p) W (by rw [S_size]; exact hpl)).mono fun e W' h => by rw [S_data, hnm] at h; exact h
            have KN := Lib.hid kn
            have HZZ := Lib.hid hz2
            rw [hin] at hbf
            clear kn hz2 he hnm hin hpl
            go_wp2_with (first
          | (clear tok0; go_at_call 75; refine (KN.out _).mono ?_; rintro e w2 ⟨rfl, hb2⟩; have HX2 := Lib.hid (HX.out.below hb2); obtain ⟨p0, p1, p2, p3⟩ := HX2.out.cells; clear hb2; have tok1 : True := trivial)
          | (clear tok1; go_at_call 77; refine (KB.out _ HX2.out.bel).mono ?_; rintro e w3 ⟨rfl, hb3⟩; have HX3 := Lib.hid (HX2.out.below hb3); obtain ⟨q0, q1, q2, q3⟩ := HX3.out.cells; clear hb3; have tok2 : True := trivial))
            go_ret
            exact ⟨ret_i HZZ.out.symm, HX3.out.bel⟩
          · rw [he, if_neg (by decide)] at hz2
            have kn : ∀ W, Calls Tryz.prog 75 #[.string (S p)] W fun e W' => e = .returned (.bool true) ∧ Below W.heap.size W W' := fun W => (text_Name (S p) W (by rw [S_size]; exact hpl)).mono fun e W' h => by rw [S_data, hnm] at h; exact h
            have KN := Lib.hid kn
            have HZZ := Lib.hid hz2
            rw [hin] at hbf
            clear kn hz2 he hnm hin hpl
            go_wp2_with (first
          | (clear tok0; go_at_call 75; refine (KN.out _).mono ?_; rintro e w2 ⟨rfl, hb2⟩; have HX2 := Lib.hid (HX.out.below hb2); obtain ⟨p0, p1, p2, p3⟩ := HX2.out.cells; clear hb2; have tok1 : True := trivial)
          | (clear tok1; go_at_call 77; refine (KB.out _ HX2.out.bel).mono ?_; rintro e w3 ⟨rfl, hb3⟩; have HX3 := Lib.hid (HX2.out.below hb3); obtain ⟨q0, q1, q2, q3⟩ := HX3.out.cells; clear hb3; have tok2 : True := trivial))
            go_roundw
            case rel => exact ⟨k + 1, by omega, by go_num, Lib.hid ⟨HX3.out.bel, HX3.out.box⟩, HZZ⟩
            case measure => simp [intOf]; omega
        · obtain rfl : k = m.bows.length := by omega
          have hz2 := hzz.out
          rw [restW_end] at hz2
          have HZ2 := Lib.hid hz2
          clear hzz hz2
          go_wp2
          go_ret
          exact ⟨ret_i HZ2.out.symm, HW.out.1⟩
end Go.Proofs.YtjchapoggmipbaaGreatDoor

namespace Go.Proofs.YtjchapoggmipbaaGreatDoor

structure Chs where
  mdl : Mdl
  bows : List Int
  over : Int
  done : Int
  need : Int
  ord : List Int
structure Cst where
  ball : Int
  need : Int
  str : Int
  par : Int
  nxt : Int
def noCst : Cst := ⟨0, 0, 0, 0, 0⟩
def plansF (n : Int) : List Int → Int
  | [] => 0
  | b :: l => if b < 0 ∨ n ≤ b then 1 else plansF n l
def ordF (n : Int) : List Int → List Int → Int
  | _, [] => 0
  | pre, b :: l => if b < 0 ∨ n ≤ b then 1 else if b ∈ pre then 7 else ordF n (pre ++ [b]) l
def rangeC (c : Chs) : Bool := decide (c.over < 4) || decide (8 < c.over) || decide (c.done < 0) || decide (c.over ≤ c.done) || decide (c.need < 1) || decide (84 < c.need)
def checkC (c : Chs) : Int :=
  if checkM c.mdl ≠ 0 then checkM c.mdl
  else if c.bows.length = 0 then 6
  else if 12 < c.bows.length then 9
  else if plansF c.mdl.bows.length c.bows ≠ 0 then plansF c.mdl.bows.length c.bows
  else if rangeC c = true then 2
  else if c.ord.length < 2 ∨ 11 < c.ord.length then 9
  else ordF c.mdl.bats.length [] c.ord
def startC (c : Chs) : Cst × Int := if checkC c ≠ 0 then (noCst, checkC c) else (⟨0, c.need, 0, 1, 2⟩, 0)
def outC (c : Chs) (s : Cst) : Bool := !(inC s.ball 0 c.bows.length) || !(inC s.need 0 c.need) || !(inC s.nxt 2 c.ord.length) || !(inC s.str (-1) (s.nxt - 1)) || !(inC s.par 0 (s.nxt - 1))
where inC (n lo hi : Int) : Bool := decide (lo ≤ n) && decide (n ≤ hi)
def stateC (c : Chs) (s : Cst) : Int :=
  if outC c s = true then 2 else if s.str = s.par ∨ (s.str = -1 ∧ s.nxt < c.ord.length) then 1 else 0
def chstC (c : Chs) (s : Cst) : Int := if checkC c ≠ 0 then checkC c else stateC c s
def stC (c : Chs) (s : Cst) : Int := if s.need = 0 then 2 else if s.str < 0 ∨ s.ball = c.bows.length then 3 else 1
/-- The outcomes of the next ball of a running state. -/
def mvC (c : Chs) (s : Cst) : List Otc := match c.ord[s.str.toNat]?, c.bows[s.ball.toNat]? with
  | some i, some j => match c.mdl.bats[i.toNat]?, c.mdl.bows[j.toNat]? with
    | some b, some w => (shiftS b.dist w.shift).1
    | _, _ => []
  | _, _ => []
def movesC (c : Chs) (s : Cst) : List Otc × Int := if chstC c s ≠ 0 then ([], chstC c s) else if stC c s ≠ 1 then ([], 11) else (mvC c s, 0)
def swapC (c : Chs) (ball : Int) (o : Otc) : Bool := decide (o.runs % 2 = 1) != decide ((c.done + ball) % c.over = 0)
def stepC (c : Chs) (s : Cst) (o : Otc) : Cst :=
  if o.wick = true then
    if s.nxt = c.ord.length then ⟨s.ball + 1, max (s.need - o.runs) 0, -1, s.par, s.nxt⟩
    else if swapC c (s.ball + 1) o = true then ⟨s.ball + 1, max (s.need - o.runs) 0, s.par, s.nxt, s.nxt + 1⟩ else ⟨s.ball + 1, max (s.need - o.runs) 0, s.nxt, s.par, s.nxt + 1⟩
  else if swapC c (s.ball + 1) o = true then ⟨s.ball + 1, max (s.need - o.runs) 0, s.par, s.str, s.nxt⟩ else ⟨s.ball + 1, max (s.need - o.runs) 0, s.str, s.par, s.nxt⟩
def pow16 : Nat → Int
  | 0 => 1
  | n + 1 => 16 * pow16 n
/-- The value of a state with n balls to come. -/
def chF (c : Chs) : Nat → Cst → Int
  | 0, s => if s.need = 0 then 1 else 0
  | n + 1, s => if s.need = 0 then pow16 (n + 1) else if s.str < 0 then 0 else sumI ((mvC c s).map fun o => o.wt * chF c n (stepC c s o))
def leftC (c : Chs) (s : Cst) : Nat := (c.bows.length - s.ball).toNat
def valS (c : Chs) (s : Cst) : Int := chF c (leftC c s) s
def valueC (c : Chs) (s : Cst) : Int × Int := if chstC c s ≠ 0 then (0, chstC c s) else (valS c s, 0)
theorem plansF_ok {n : Int} : ∀ {l : List Int}, plansF n l = 0 → ∀ b ∈ l, 0 ≤ b ∧ b < n
  | [], _, b, hb => by cases hb
  | a :: l, h, b, hb => by
    rw [plansF] at h
    by_cases h1 : a < 0 ∨ n ≤ a
    · rw [if_pos h1] at h; cases h
    · rw [if_neg h1] at h
      rcases List.mem_cons.1 hb with rfl | hb
      · exact ⟨by omega, by omega⟩
      · exact plansF_ok h b hb
theorem ordF_ok {n : Int} : ∀ {l pre : List Int}, ordF n pre l = 0 → ∀ b ∈ l, 0 ≤ b ∧ b < n
  | [], _, _, b, hb => by cases hb
  | a :: l, pre, h, b, hb => by
    rw [ordF] at h
    by_cases h1 : a < 0 ∨ n ≤ a
    · rw [if_pos h1] at h; cases h
    · rw [if_neg h1] at h
      by_cases h2 : a ∈ pre
      · rw [if_pos h2] at h; cases h
      · rw [if_neg h2] at h
        rcases List.mem_cons.1 hb with rfl | hb
        · exact ⟨by omega, by omega⟩
        · exact ordF_ok h b hb
structure OkC (c : Chs) : Prop where
  mdl : OkM c.mdl
  chk : checkM c.mdl = 0
  nb : 1 ≤ c.bows.length ∧ c.bows.length ≤ 12
  bow : ∀ b ∈ c.bows, 0 ≤ b ∧ b < c.mdl.bows.length
  over : 4 ≤ c.over ∧ c.over ≤ 8
  done : 0 ≤ c.done ∧ c.done < c.over
  need : 1 ≤ c.need ∧ c.need ≤ 84
  no : 2 ≤ c.ord.length ∧ c.ord.length ≤ 11
  ord : ∀ b ∈ c.ord, 0 ≤ b ∧ b < c.mdl.bats.length
theorem checkC_ok {c : Chs} (h : checkC c = 0) : OkC c := by
  unfold checkC at h
  by_cases h1 : checkM c.mdl ≠ 0
  · rw [if_pos h1] at h; exact absurd h h1
  rw [if_neg h1] at h
  by_cases h2 : c.bows.length = 0
  · rw [if_pos h2] at h; cases h
  rw [if_neg h2] at h
  by_cases h3 : 12 < c.bows.length
  · rw [if_pos h3] at h; cases h
  rw [if_neg h3] at h
  by_cases h4 : plansF c.mdl.bows.length c.bows ≠ 0
  · rw [if_pos h4] at h; exact absurd h h4
  rw [if_neg h4] at h
  by_cases h5 : rangeC c = true
  · rw [if_pos h5] at h; cases h
  rw [if_neg h5] at h
  by_cases h6 : c.ord.length < 2 ∨ 11 < c.ord.length
  · rw [if_pos h6] at h; cases h
  rw [if_neg h6] at h
  unfold rangeC at h5
  simp only [Bool.or_eq_true, decide_eq_true_eq, not_or] at h5
  have h1' : checkM c.mdl = 0 := by omega
  exact ⟨checkM_ok h1', h1', by omega, plansF_ok (by omega), by omega, by omega, by omega, by omega, ordF_ok h⟩
structure OkS (c : Chs) (s : Cst) : Prop where
  ball : 0 ≤ s.ball ∧ s.ball ≤ c.bows.length
  need : 0 ≤ s.need ∧ s.need ≤ c.need
  nxt : 2 ≤ s.nxt ∧ s.nxt ≤ c.ord.length
  str : -1 ≤ s.str ∧ s.str < s.nxt
  par : 0 ≤ s.par ∧ s.par < s.nxt
  ne : s.str ≠ s.par
  last : s.str = -1 → s.nxt = c.ord.length
theorem outC_no {c : Chs} {s : Cst} (h : outC c s = false) : (0 ≤ s.ball ∧ s.ball ≤ c.bows.length) ∧ (0 ≤ s.need ∧ s.need ≤ c.need) ∧ (2 ≤ s.nxt ∧ s.nxt ≤ c.ord.length) ∧ (-1 ≤ s.str ∧ s.str < s.nxt) ∧ (0 ≤ s.par ∧ s.par < s.nxt) := by
  unfold outC outC.inC at h
  simp only [Bool.or_eq_false_iff, Bool.not_eq_false', Bool.and_eq_true, decide_eq_true_eq] at h
  omega
theorem outC_yes {c : Chs} {s : Cst} (h : (0 ≤ s.ball ∧ s.ball ≤ c.bows.length) ∧ (0 ≤ s.need ∧ s.need ≤ c.need) ∧ (2 ≤ s.nxt ∧ s.nxt ≤ c.ord.length) ∧ (-1 ≤ s.str ∧ s.str < s.nxt) ∧ (0 ≤ s.par ∧ s.par < s.nxt)) : outC c s = false := by
  unfold outC outC.inC
  simp only [Bool.or_eq_false_iff, Bool.not_eq_false', Bool.and_eq_true, decide_eq_true_eq]
  omega
theorem stateC_ok {c : Chs} {s : Cst} : stateC c s = 0 ↔ OkS c s := by
  unfold stateC
  constructor
  · intro h
    by_cases h1 : outC c s = true
    · rw [if_pos h1] at h; cases h
    rw [if_neg h1] at h
    obtain ⟨a1, a2, a3, a4, a5⟩ := outC_no (by simpa using h1)
    by_cases h2 : s.str = s.par ∨ (s.str = -1 ∧ s.nxt < c.ord.length)
    · rw [if_pos h2] at h; cases h
    exact ⟨a1, a2, a3, a4, a5, fun e => h2 (.inl e), fun e => by
      rcases Classical.em (s.nxt < c.ord.length) with h3 | h3
      · exact absurd (.inr ⟨e, h3⟩) h2
      · omega⟩
  · intro h
    have h1 : outC c s = false := outC_yes ⟨h.ball, h.need, h.nxt, h.str, h.par⟩
    rw [if_neg (by simp [h1]), if_neg]
    rintro (h2 | ⟨h2, h3⟩)
    · exact h.ne h2
    · have := h.last h2; omega
/-- The outcomes of a running state are a distribution. -/
theorem mvC_at {c : Chs} {s : Cst} (h : OkC c) (hs : OkS c s) (h1 : stC c s = 1) : ∃ (i j : Int) (b : Bat) (w : Bow), c.ord[s.str.toNat]? = some i ∧ c.bows[s.ball.toNat]? = some j ∧ 0 ≤ s.str ∧ s.ball < c.bows.length ∧ 0 ≤ i ∧ i < c.mdl.bats.length ∧ 0 ≤ j ∧ j < c.mdl.bows.length ∧ c.mdl.bats[i.toNat]? = some b ∧ c.mdl.bows[j.toNat]? = some w ∧ shiftS b.dist w.shift = (mvC c s, 0) ∧ checkD (mvC c s) = 0 := by
  unfold stC at h1
  by_cases g1 : s.need = 0
  · rw [if_pos g1] at h1; cases h1
  rw [if_neg g1] at h1
  by_cases g2 : s.str < 0 ∨ s.ball = c.bows.length
  · rw [if_pos g2] at h1; cases h1
  have k1 := hs.ball; have k2 := hs.str; have k3 := hs.nxt
  have e1 : s.str.toNat < c.ord.length := by omega
  have e2 : s.ball.toNat < c.bows.length := by omega
  have b1 := h.ord _ (List.getElem_mem e1)
  have b2 := h.bow _ (List.getElem_mem e2)
  have e3 : c.ord[s.str.toNat].toNat < c.mdl.bats.length := by omega
  have e4 : c.bows[s.ball.toNat].toNat < c.mdl.bows.length := by omega
  have q1 := (h.mdl.bat _ (List.getElem_mem e3)).2
  have q2 := (h.mdl.bow _ (List.getElem_mem e4)).2
  have hsh := shift_ok q1 q2.1 q2.2
  have hm : mvC c s = (shiftS c.mdl.bats[c.ord[s.str.toNat].toNat].dist c.mdl.bows[c.bows[s.ball.toNat].toNat].shift).1 := by
    unfold mvC
    rw [List.getElem?_eq_getElem e1, List.getElem?_eq_getElem e2]
    dsimp only
    rw [List.getElem?_eq_getElem e3, List.getElem?_eq_getElem e4]
  refine ⟨_, _, _, _, List.getElem?_eq_getElem e1, List.getElem?_eq_getElem e2, by omega, by omega, b1.1, b1.2, b2.1, b2.2, List.getElem?_eq_getElem e3, List.getElem?_eq_getElem e4, ?_, ?_⟩
  · rw [hm, hsh]
  · rw [hm]; exact (shift_check (by rw [hsh])).1
theorem stepC_ok {c : Chs} {s : Cst} (h : OkC c) (hs : OkS c s) (h1 : stC c s = 1) {o : Otc} (ho : 0 ≤ o.runs) : OkS c (stepC c s o) ∧ (stepC c s o).ball = s.ball + 1 ∧ (stepC c s o).need = max (s.need - o.runs) 0 := by
  obtain ⟨i, j, b, w, _, _, k1, k2, _⟩ := mvC_at h hs h1
  have a1 := hs.ball; have a2 := hs.need; have a3 := hs.nxt; have a4 := hs.str; have a5 := hs.par; have a6 := hs.ne
  have o1 := ho
  have h0 : 0 ≤ max (s.need - o.runs) 0 ∧ max (s.need - o.runs) 0 ≤ c.need := by omega
  unfold stepC
  by_cases hw : o.wick = true
  · rw [if_pos hw]
    by_cases hn : s.nxt = c.ord.length
    · rw [if_pos hn]
      exact ⟨⟨by dsimp only; omega, h0, by dsimp only; omega, by dsimp only; omega, by dsimp only; omega, by dsimp only; omega, fun _ => hn⟩, rfl, rfl⟩
    · rw [if_neg hn]
      by_cases hx : swapC c (s.ball + 1) o = true
      · rw [if_pos hx]
        exact ⟨⟨by dsimp only; omega, h0, by dsimp only; omega, by dsimp only; omega, by dsimp only; omega, by dsimp only; omega, fun e => by dsimp only at e; omega⟩, rfl, rfl⟩
      · rw [if_neg hx]
        exact ⟨⟨by dsimp only; omega, h0, by dsimp only; omega, by dsimp only; omega, by dsimp only; omega, by dsimp only; omega, fun e => by dsimp only at e; omega⟩, rfl, rfl⟩
  · rw [if_neg hw]
    by_cases hx : swapC c (s.ball + 1) o = true
    · rw [if_pos hx]
      exact ⟨⟨by dsimp only; omega, h0, by dsimp only; omega, by dsimp only; omega, by dsimp only; omega, by dsimp only; omega, fun e => by dsimp only at e; omega⟩, rfl, rfl⟩
    · rw [if_neg hx]
      exact ⟨⟨by dsimp only; omega, h0, by dsimp only; omega, by dsimp only; omega, by dsimp only; omega, by dsimp only; omega, fun e => by dsimp only at e; omega⟩, rfl, rfl⟩
theorem sumI_le {α : Type} {f g : α → Int} : ∀ {l : List α}, (∀ x ∈ l, f x ≤ g x) → sumI (l.map f) ≤ sumI (l.map g)
  | [], _ => Int.le_refl _
  | x :: l, h => by
    have h1 := h x (by simp)
    have h2 := sumI_le (l := l) fun y hy => h y (by simp [hy])
    rw [List.map_cons, List.map_cons, sumI_cons, sumI_cons]; omega
theorem sumI_mul {α : Type} (f : α → Int) (k : Int) : ∀ l : List α, sumI (l.map fun x => f x * k) = sumI (l.map f) * k
  | [] => by rw [List.map_nil, List.map_nil, sumI_nil, Int.zero_mul]
  | x :: l => by rw [List.map_cons, List.map_cons, sumI_cons, sumI_cons, sumI_mul f k l, Int.add_mul]
theorem pow16_pos : ∀ n, 1 ≤ pow16 n
  | 0 => Int.le_refl _
  | n + 1 => by have := pow16_pos n; rw [pow16]; omega
theorem pow16_unit : ∀ n, pow16 n = unitV n
  | 0 => rfl
  | n + 1 => by rw [pow16, pow16_unit n, unitV_add, unitV_one, Int.mul_comm]
/-- Values lie from 0 to 16 to the power of the balls to come; fewer runs wanted never give less. -/
theorem chF_law {c : Chs} (h : OkC c) : ∀ (n : Nat) (s t : Cst), OkS c s → OkS c t → (c.bows.length : Int) - s.ball = n → t.ball = s.ball → t.str = s.str → t.par = s.par → t.nxt = s.nxt → t.need ≤ s.need →
    0 ≤ chF c n s ∧ chF c n s ≤ pow16 n ∧ chF c n s ≤ chF c n t
  | 0, s, t, hs, ht, hn, e1, e2, e3, e4, e5 => by
    rw [chF, chF, pow16]
    have := ht.need.1
    by_cases h1 : s.need = 0
    · rw [if_pos h1, if_pos (by omega)]; omega
    · rw [if_neg h1]; split <;> omega
  | n + 1, s, t, hs, ht, hn, e1, e2, e3, e4, e5 => by
    have hp := pow16_pos (n + 1)
    have bound : ∀ x : Cst, OkS c x → (c.bows.length : Int) - x.ball = ((n + 1 : Nat) : Int) → 0 ≤ chF c (n + 1) x ∧ chF c (n + 1) x ≤ pow16 (n + 1) := fun x hx hxn => by
      rw [chF]
      by_cases h1 : x.need = 0
      · rw [if_pos h1]; omega
      rw [if_neg h1]
      by_cases h2 : x.str < 0
      · rw [if_pos h2]; omega
      rw [if_neg h2]
      have hst : stC c x = 1 := by unfold stC; rw [if_neg h1, if_neg (by omega)]
      obtain ⟨_, _, _, _, _, _, _, _, _, _, _, _, _, _, _, hd⟩ := mvC_at h hx hst
      have hok := checkD_ok hd
      have hv : ∀ o ∈ mvC c x, 0 ≤ chF c n (stepC c x o) ∧ chF c n (stepC c x o) ≤ pow16 n := fun o ho => by
        obtain ⟨k1, k2, _⟩ := stepC_ok h hx hst (hok.each o ho).r0
        have := chF_law h n (stepC c x o) (stepC c x o) k1 k1 (by rw [k2]; push_cast at hxn; omega) rfl rfl rfl rfl (Int.le_refl _)
        exact ⟨this.1, this.2.1⟩
      constructor
      · have := sumI_le (f := fun _ => 0) (g := fun o => o.wt * chF c n (stepC c x o)) (l := mvC c x) fun o ho => Int.mul_nonneg (by have := (hok.each o ho).w1; omega) (hv o ho).1
        have e0 : sumI ((mvC c x).map fun _ => (0 : Int)) = 0 := by
          generalize mvC c x = l
          induction l with
          | nil => rfl
          | cons a l ih => rw [List.map_cons, sumI_cons, ih]; rfl
        omega
      · have := sumI_le (f := fun o => o.wt * chF c n (stepC c x o)) (g := fun o => o.wt * pow16 n) (l := mvC c x) fun o ho => Int.mul_le_mul_of_nonneg_left (hv o ho).2 (by have := (hok.each o ho).w1; omega)
        rw [sumI_mul (fun o : Otc => o.wt) (pow16 n), hok.sum] at this
        rw [pow16]; exact this
    refine ⟨(bound s hs hn).1, (bound s hs hn).2, ?_⟩
    have htn : (c.bows.length : Int) - t.ball = ((n + 1 : Nat) : Int) := by omega
    by_cases h1 : t.need = 0
    · have e : chF c (n + 1) t = pow16 (n + 1) := by rw [chF, if_pos h1]
      rw [e]; exact (bound s hs hn).2
    · have g1 : s.need ≠ 0 := by have := ht.need.1; omega
      rw [chF, chF, if_neg h1, if_neg g1]
      by_cases h2 : s.str < 0
      · rw [if_pos h2, if_pos (by omega)]; exact Int.le_refl _
      rw [if_neg h2, if_neg (by omega)]
      have hst : stC c s = 1 := by unfold stC; rw [if_neg g1, if_neg (by omega)]
      have htt : stC c t = 1 := by unfold stC; rw [if_neg h1, if_neg (by omega)]
      obtain ⟨_, _, _, _, _, _, _, _, _, _, _, _, _, _, _, hd⟩ := mvC_at h hs hst
      have hok := checkD_ok hd
      have em : mvC c t = mvC c s := by unfold mvC; rw [e1, e2]
      rw [em]
      refine sumI_le fun o ho => Int.mul_le_mul_of_nonneg_left ?_ (by have := (hok.each o ho).w1; omega)
      obtain ⟨k1, k2, k3⟩ := stepC_ok h hs hst (hok.each o ho).r0
      obtain ⟨l1, l2, l3⟩ := stepC_ok h ht htt (hok.each o ho).r0
      have same : (stepC c t o).str = (stepC c s o).str ∧ (stepC c t o).par = (stepC c s o).par ∧ (stepC c t o).nxt = (stepC c s o).nxt := by
        unfold stepC
        rw [e1, e4]
        split
        · split
          · exact ⟨rfl, e3, rfl⟩
          · split
            · exact ⟨e3, rfl, rfl⟩
            · exact ⟨rfl, e3, rfl⟩
        · split
          · exact ⟨e3, e2, rfl⟩
          · exact ⟨e2, e3, rfl⟩
      exact (chF_law h n (stepC c s o) (stepC c t o) k1 l1 (by rw [k2]; push_cast at hn; omega) (by rw [l2, k2, e1]) same.1 same.2.1 same.2.2 (by rw [l3, k3]; omega)).2.2
end Go.Proofs.YtjchapoggmipbaaGreatDoor

namespace Go.Proofs.YtjchapoggmipbaaGreatDoor

/-- What is left of a check: behind the model and the number of balls; behind the bowlers; the order from k on. -/
def tailC (c : Chs) : Int := if rangeC c = true then 2 else if c.ord.length < 2 ∨ 11 < c.ord.length then 9 else ordF c.mdl.bats.length [] c.ord
def restP (c : Chs) (k : Nat) : Int := if plansF c.mdl.bows.length (c.bows.drop k) ≠ 0 then plansF c.mdl.bows.length (c.bows.drop k) else tailC c
def restO (c : Chs) (k : Nat) : Int := ordF c.mdl.bats.length (c.ord.take k) (c.ord.drop k)
theorem checkC_rest {c : Chs} (h1 : checkM c.mdl = 0) (h2 : c.bows.length ≠ 0) (h3 : ¬ 12 < c.bows.length) : checkC c = restP c 0 := by
  unfold checkC restP tailC
  rw [if_neg (by omega), if_neg h2, if_neg h3]; rfl
theorem restP_at {c : Chs} {k : Nat} (hk : k < c.bows.length) : restP c k = if c.bows[k] < 0 ∨ (c.mdl.bows.length : Int) ≤ c.bows[k] then 1 else restP c (k + 1) := by
  unfold restP
  rw [List.drop_eq_getElem_cons hk, plansF]
  by_cases h : c.bows[k] < 0 ∨ (c.mdl.bows.length : Int) ≤ c.bows[k]
  · rw [if_pos h, if_pos h]; rfl
  · rw [if_neg h, if_neg h]
theorem restP_end {c : Chs} : restP c c.bows.length = tailC c := by
  unfold restP
  rw [List.drop_of_length_le (Nat.le_refl _), plansF, if_neg (by simp)]
theorem tailC_rest {c : Chs} (h1 : rangeC c = false) (h2 : ¬ (c.ord.length < 2 ∨ 11 < c.ord.length)) : tailC c = restO c 0 := by
  unfold tailC restO
  rw [if_neg (by simp [h1]), if_neg h2]; simp
theorem restO_at {c : Chs} {k : Nat} (hk : k < c.ord.length) : restO c k = if c.ord[k] < 0 ∨ (c.mdl.bats.length : Int) ≤ c.ord[k] then 1 else if c.ord[k] ∈ c.ord.take k then 7 else restO c (k + 1) := by
  unfold restO
  rw [List.drop_eq_getElem_cons hk, ordF, show c.ord.take (k + 1) = c.ord.take k ++ [c.ord[k]] by rw [List.take_add_one, List.getElem?_eq_getElem hk]; rfl]
theorem restO_end {c : Chs} : restO c c.ord.length = 0 := by
  unfold restO
  rw [List.drop_of_length_le (Nat.le_refl _), ordF]
/-- The ways through the ranges of a chase. -/
theorem rangeC_ways (c : Chs) : (rangeC c = true ∧ (c.over < 4 ∨ (¬ c.over < 4 ∧ 8 < c.over) ∨ (¬ c.over < 4 ∧ ¬ 8 < c.over ∧ c.done < 0) ∨ (¬ c.over < 4 ∧ ¬ 8 < c.over ∧ ¬ c.done < 0 ∧ c.over ≤ c.done) ∨ (¬ c.over < 4 ∧ ¬ 8 < c.over ∧ ¬ c.done < 0 ∧ ¬ c.over ≤ c.done ∧ c.need < 1) ∨ (¬ c.over < 4 ∧ ¬ 8 < c.over ∧ ¬ c.done < 0 ∧ ¬ c.over ≤ c.done ∧ ¬ c.need < 1 ∧ 84 < c.need))) ∨
    (rangeC c = false ∧ ¬ c.over < 4 ∧ ¬ 8 < c.over ∧ ¬ c.done < 0 ∧ ¬ c.over ≤ c.done ∧ ¬ c.need < 1 ∧ ¬ 84 < c.need) := by
  unfold rangeC
  by_cases h1 : c.over < 4
  · exact .inl ⟨by simp [h1], .inl h1⟩
  by_cases h2 : 8 < c.over
  · exact .inl ⟨by simp [h2], .inr (.inl ⟨h1, h2⟩)⟩
  by_cases h3 : c.done < 0
  · exact .inl ⟨by simp [h3], .inr (.inr (.inl ⟨h1, h2, h3⟩))⟩
  by_cases h4 : c.over ≤ c.done
  · exact .inl ⟨by simp [h4], .inr (.inr (.inr (.inl ⟨h1, h2, h3, h4⟩)))⟩
  by_cases h5 : c.need < 1
  · exact .inl ⟨by simp [h5], .inr (.inr (.inr (.inr (.inl ⟨h1, h2, h3, h4, h5⟩))))⟩
  by_cases h6 : 84 < c.need
  · exact .inl ⟨by simp [h6], .inr (.inr (.inr (.inr (.inr ⟨h1, h2, h3, h4, h5, h6⟩))))⟩
  exact .inr ⟨by simp [h1, h2, h3, h4, h5, h6], h1, h2, h3, h4, h5, h6⟩
theorem chst_ok {c : Chs} {s : Cst} (h : chstC c s = 0) : checkC c = 0 ∧ OkC c ∧ OkS c s := by
  unfold chstC at h
  by_cases h4 : checkC c ≠ 0
  · rw [if_pos h4] at h; exact absurd h h4
  rw [if_neg h4] at h
  exact ⟨by omega, checkC_ok (by omega), stateC_ok.1 h⟩
theorem stC_bd (c : Chs) (s : Cst) : 1 ≤ stC c s ∧ stC c s ≤ 3 := by unfold stC; split; omega; split <;> omega
/-- The value of a state, by its status. -/
theorem valS_won {c : Chs} {s : Cst} (h : stC c s = 2) : valS c s = pow16 (leftC c s) := by
  have hn : s.need = 0 := by
    unfold stC at h
    by_cases h1 : s.need = 0
    · exact h1
    · rw [if_neg h1] at h; split at h <;> cases h
  unfold valS
  cases leftC c s with
  | zero => rw [chF, if_pos hn]; rfl
  | succ n => rw [chF, if_pos hn]
theorem valS_lost {c : Chs} {s : Cst} (hs : OkS c s) (h : stC c s = 3) : valS c s = 0 := by
  unfold stC at h
  by_cases h1 : s.need = 0
  · rw [if_pos h1] at h; cases h
  rw [if_neg h1] at h
  by_cases h2 : s.str < 0 ∨ s.ball = c.bows.length
  · unfold valS
    cases hl : leftC c s with
    | zero => rw [chF, if_neg h1]
    | succ n =>
      rw [chF, if_neg h1]
      rcases h2 with h2 | h2
      · rw [if_pos h2]
      · unfold leftC at hl; omega
  · rw [if_neg h2] at h; cases h
theorem left_run {c : Chs} {s : Cst} (hs : OkS c s) (h : stC c s = 1) : s.need ≠ 0 ∧ ¬ s.str < 0 ∧ ∃ n, leftC c s = n + 1 ∧ (c.bows.length : Int) - s.ball = ((n + 1 : Nat) : Int) := by
  unfold stC at h
  by_cases h1 : s.need = 0
  · rw [if_pos h1] at h; cases h
  rw [if_neg h1] at h
  by_cases h2 : s.str < 0 ∨ s.ball = c.bows.length
  · rw [if_pos h2] at h; cases h
  have := hs.ball
  exact ⟨h1, by omega, (c.bows.length - s.ball).toNat - 1, by unfold leftC; omega, by omega⟩
theorem valS_run {c : Chs} {s : Cst} (hc : OkC c) (hs : OkS c s) (h : stC c s = 1) : valS c s = sumI ((mvC c s).map fun o => o.wt * valS c (stepC c s o)) := by
  obtain ⟨h1, h2, n, hn, hn2⟩ := left_run hs h
  obtain ⟨_, _, _, _, _, _, _, _, _, _, _, _, _, _, _, hd⟩ := mvC_at hc hs h
  have hok := checkD_ok hd
  have e : valS c s = chF c (n + 1) s := by unfold valS; rw [hn]
  rw [e, chF, if_neg h1, if_neg h2]
  congr 1
  refine List.map_congr_left fun o ho => ?_
  obtain ⟨_, k2, _⟩ := stepC_ok hc hs h (hok.each o ho).r0
  unfold valS leftC
  rw [k2, show ((c.bows.length : Int) - (s.ball + 1)).toNat = n by push_cast at hn2; omega]
theorem left_step {c : Chs} {s : Cst} {o : Otc} (hc : OkC c) (hs : OkS c s) (h : stC c s = 1) (ho : 0 ≤ o.runs) : leftC c s = leftC c (stepC c s o) + 1 := by
  obtain ⟨h1, h2, n, hn, hn2⟩ := left_run hs h
  obtain ⟨_, k2, _⟩ := stepC_ok hc hs h ho
  unfold leftC at hn ⊢
  rw [k2]; push_cast at hn2; omega
theorem left_le {c : Chs} {s : Cst} (hc : OkC c) (hs : OkS c s) : leftC c s ≤ 12 := by
  have := hc.nb; have := hs.ball
  unfold leftC; omega
theorem valS_bd {c : Chs} {s : Cst} (hc : OkC c) (hs : OkS c s) : 0 ≤ valS c s ∧ valS c s ≤ pow16 (leftC c s) := by
  have := hs.ball
  have := chF_law hc (leftC c s) s s hs hs (by unfold leftC; omega) rfl rfl rfl rfl (Int.le_refl _)
  exact ⟨this.1, this.2.1⟩
theorem pow16_le {n : Nat} (h : n ≤ 12) : 1 ≤ pow16 n ∧ pow16 n ≤ 281474976710656 := by rw [pow16_unit]; exact unitV_le h
/-- Sums of the first k products. -/
theorem sum_take {α : Type} (f : α → Int) {l : List α} {k : Nat} (hk : k < l.length) : sumI ((l.take (k + 1)).map f) = sumI ((l.take k).map f) + f l[k] := by
  rw [List.take_add_one, List.getElem?_eq_getElem hk, List.map_append, sumI_app]
  show _ = _
  simp [sumI_cons, sumI_nil]
end Go.Proofs.YtjchapoggmipbaaGreatDoor

namespace Go.Proofs.YtjchapoggmipbaaGreatDoor
open Go.RowKit

/-- A chase that lies: its four slices. -/
structure ChAt (w : World) (F : Nat → Prop) (bv wv pv ov : Value) (c : Chs) : Prop where
  mdl : MdlAt w F bv wv c.mdl
  bow : Sl 1 elInt w F pv c.bows
  ord : Sl 1 elInt w F ov c.ord
def chC (c : Chs) (bv wv pv ov : Value) : Array Value := #[bv, wv, pv, .int .i64 c.over, .int .i64 c.done, .int .i64 c.need, ov]
def chV (c : Chs) (bv wv pv ov : Value) : Value := .agg #[bv, wv, pv, .int .i64 c.over, .int .i64 c.done, .int .i64 c.need, ov]
def stV (s : Cst) : Value := .agg #[.int .i64 s.ball, .int .i64 s.need, .int .i64 s.str, .int .i64 s.par, .int .i64 s.nxt]
theorem ChAt.keep {w w' : World} {F G : Nat → Prop} {bv wv pv ov : Value} {c : Chs} (h : ChAt w F bv wv pv ov c) (hs : Same F w w') (hG : ∀ b, F b → G b) : ChAt w' G bv wv pv ov c := ⟨h.mdl.keep hs hG, h.bow.keep elInt_good hs hG, h.ord.keep elInt_good hs hG⟩
theorem ChAt.below {w w' : World} {bv wv pv ov : Value} {c : Chs} (h : ChAt w (· < w.heap.size) bv wv pv ov c) (hb : Below w.heap.size w w') : ChAt w' (· < w'.heap.size) bv wv pv ov c :=
  h.keep (Same.of_below hb) fun b h => Nat.lt_of_lt_of_le h hb.size
/-- A chase boxed in block g. -/
structure ChB (w W : World) (g : Nat) (c : Chs) (bv wv pv ov : Value) : Prop where
  bel : Below w.heap.size w W
  box : Blk W g 77 #[bv, wv, pv, .int .i64 c.over, .int .i64 c.done, .int .i64 c.need, ov]
theorem ChB.below {w W W' : World} {g : Nat} {c : Chs} {bv wv pv ov : Value} (h : ChB w W g c bv wv pv ov) (hb : Below W.heap.size W W') : ChB w W' g c bv wv pv ov := ⟨h.bel.trans (hb.mono h.bel.size), h.box.below hb h.box.lt⟩
theorem ChB.drew {w W : World} {g : Nat} {c : Chs} {bv wv pv ov : Value} (h : ChB w W g c bv wv pv ov) : ChB w W.drew g c bv wv pv ov := ⟨Below.drew h.bel, h.box.drew⟩
theorem ChB.alloc {w W : World} {g : Nat} {c : Chs} {bv wv pv ov : Value} (h : ChB w W g c bv wv pv ov) (o : Obj) : ChB w (W.alloc o) g c bv wv pv ov := ⟨h.bel.alloc h.bel.size _, h.box.alloc _⟩
theorem ChB.cells {w W : World} {g : Nat} {c : Chs} {bv wv pv ov : Value} (h : ChB w W g c bv wv pv ov) : W.cell? ⟨g, 0, none⟩ = some bv ∧ W.cell? ⟨g, 1, none⟩ = some wv ∧ W.cell? ⟨g, 2, none⟩ = some pv ∧ W.cell? ⟨g, 3, none⟩ = some (.int .i64 c.over) ∧ W.cell? ⟨g, 4, none⟩ = some (.int .i64 c.done) ∧ W.cell? ⟨g, 5, none⟩ = some (.int .i64 c.need) ∧ W.cell? ⟨g, 6, none⟩ = some ov :=
  ⟨h.box.cell 0, h.box.cell 1, h.box.cell 2, h.box.cell 3, h.box.cell 4, h.box.cell 5, h.box.cell 6⟩
theorem ChB.new (w : World) (c : Chs) (bv wv pv ov : Value) : ChB w (w.alloc (.cells #[bv, wv, pv, .int .i64 c.over, .int .i64 c.done, .int .i64 c.need, ov] 77)) w.heap.size c bv wv pv ov := ⟨Below.alloc (Below.refl _ _) (Nat.le_refl _) _, Blk.new _ _ _⟩
/-- The place of a number in a list, -1 where it is not. -/
def idxI (x : Int) : List Int → Nat → Int
  | [], _ => -1
  | a :: l, k => if a = x then (k : Int) else idxI x l (k + 1)
theorem idxI_mem (x : Int) : ∀ (l : List Int) (k : Nat), -1 ≤ idxI x l k ∧ (decide (0 ≤ idxI x l k) = decide (x ∈ l))
  | [], k => ⟨by simp [idxI], by simp [idxI]⟩
  | a :: l, k => by
    rw [idxI]
    by_cases h : a = x
    · rw [if_pos h]; exact ⟨by omega, by simp [h]⟩
    · rw [if_neg h]
      have := idxI_mem x l (k + 1)
      refine ⟨this.1, ?_⟩
      rw [this.2]
      have hx : (x ∈ a :: l) = (x ∈ l) := by rw [List.mem_cons]; exact propext ⟨fun k => k.elim (fun e => absurd e.symm h) id, .inr⟩
      simp only [hx]
set_option maxRecDepth 100000 in
set_option maxHeartbeats 2000000 in
theorem int_Index (l : List Int) (v : Value) (x : Int) (F : Nat → Prop) (w : World) (h : Sl 1 elInt w F v l) (hF : ∀ b, F b → b < w.heap.size) :
    Calls Tryz.prog 61 #[v, .int .i64 x] w fun e w' => e = .returned (.int .i64 (idxI x l 0)) ∧ Below w.heap.size w w' := by
  obtain ⟨z, hz⟩ : ∃ z, z = idxI x l 0 := ⟨_, rfl⟩
  rw [← hz]
  obtain ⟨A, c, rfl, hc, hc2⟩ := h.shape
  have HZ : Hid (z = idxI x (l.drop 0) 0) := hz
  have HL := Lib.hid h
  have HB := Lib.hid (Below.refl w.heap.size w)
  have HF := Lib.hid hF
  clear hz h hF
  go_enter Tryz.func61, Tryz.ntmps61
  go_wp2
  go_loopw [8] (fun i wr => ∃ k : Nat, k ≤ l.length ∧ i = .int .i64 k ∧ Below w.heap.size w wr ∧ Hid (z = idxI x (l.drop k) k)) (fun i _ => l.length - (intOf i).toNat)
  case atStart => exact ⟨0, Nat.zero_le _, rfl, HB.out, HZ⟩
  case round =>
    obtain ⟨k, hk, rfl, hb, hzz⟩ := hrel
    have HBB := Lib.hid hb
    by_cases hlt : k < l.length
    · obtain ⟨b0, o, rfl, hbl, yy0⟩ := int_at HL.out hlt
      have y0 := (hb.cell (p := ⟨b0, o + k, none⟩) (HF.out _ hbl)).trans yy0
      have hz2 := hzz.out
      rw [drop_get hlt, idxI] at hz2
      obtain ⟨p, hp⟩ : ∃ p, p = l[k] := ⟨_, rfl⟩
      rw [← hp] at hz2 y0
      clear hb hzz hp yy0
      by_cases hin : p = x
      · rw [if_pos hin] at hz2
        have e1 : (x == p) = true := beq_iff_eq.2 hin.symm
        have e2 : (p == x) = true := beq_iff_eq.2 hin
        have HZZ := Lib.hid hz2
        clear hz2 hin
        go_wp2
        go_ret
        exact ⟨ret_i HZZ.out.symm, HBB.out⟩
      · rw [if_neg hin] at hz2
        have e1 : (x == p) = false := beq_eq_false_iff_ne.2 (fun e => hin e.symm)
        have e2 : (p == x) = false := beq_eq_false_iff_ne.2 hin
        have HZZ := Lib.hid hz2
        clear hz2 hin
        go_wp2
        go_roundw
        case rel => exact ⟨k + 1, by omega, by go_num, HBB.out, HZZ⟩
        case measure => simp [intOf]; omega
    · obtain rfl : k = l.length := by omega
      have hz2 := hzz.out
      rw [List.drop_of_length_le (Nat.le_refl _), idxI] at hz2
      have HZZ := Lib.hid hz2
      clear hb hzz hz2
      go_wp2
      go_ret
      exact ⟨ret_i HZZ.out.symm, HBB.out⟩
set_option maxRecDepth 100000 in
theorem int_Contains (l : List Int) (v : Value) (x : Int) (F : Nat → Prop) (w : World) (h : Sl 1 elInt w F v l) (hF : ∀ b, F b → b < w.heap.size) :
    Calls Tryz.prog 26 #[v, .int .i64 x] w fun e w' => e = .returned (.bool (decide (x ∈ l))) ∧ Below w.heap.size w w' := by
  have hk := int_Index l v x F w h hF
  have hm := idxI_mem x l 0
  obtain ⟨i, hi⟩ : ∃ i, i = idxI x l 0 := ⟨_, rfl⟩
  rw [← hi] at hk hm
  have HM := Lib.hid hm.2
  have HK := Lib.hid hk
  obtain ⟨A, c, rfl, hc, hc2⟩ := h.shape
  clear hk hm hi h hF
  go_enter Tryz.func26, Tryz.ntmps26
  go_wp2_with (go_at_call 61; refine HK.out.mono ?_; rintro e w2 ⟨rfl, hb2⟩)
  go_ret
  exact ⟨ret_b HM.out, hb2⟩
end Go.Proofs.YtjchapoggmipbaaGreatDoor

namespace Go.Proofs.YtjchapoggmipbaaGreatDoor
open Go.ChangeShapes Go.WideShapes Go.ChangeAt Go.RowKit

theorem cellsIs : Tryz.prog.cellsOf 26 = 1 := by kernel_rfl
section
variable {H : Type} {enc : TypeId × Value → H} {W : World}
set_option maxRecDepth 100000 in
theorem int_one8 {F : Nat → Prop} {fuel : Nat} {held : Bool} {cs : List Value} {x : DataW H × List MemPlace} (h : DataW.trod enc Tryz.prog W 0 (fun _ => true) held fuel 3 cs = some x) :
    ∃ f : Int, elInt W F cs f := by
  obtain ⟨a, e, _, _⟩ := DataW.trod_int Tryz.underlying3 h
  exact ⟨a, e⟩
set_option maxRecDepth 100000 in
theorem mdl_raw {fuel : Nat} {held : Bool} {cs : List Value} {x : DataW H × List MemPlace} (h : DataW.trod enc Tryz.prog W 0 (fun _ => true) held fuel 25 cs = some x) :
    ∃ (m : Mdl) (bv wv : Value), cs = [bv, wv] ∧ MdlAt W (· < W.heap.size) bv wv m := by
  obtain ⟨ys, n, _, rfl, hc, hl, hf⟩ := DataW.trod_struct Tryz.underlying25 h
  rw [cellsMdl] at hc
  match cs, hc with
  | [c0, c1], _ =>
    match ys, hl with
    | [z0, z1], _ =>
      have k0 := hf 0 _ rfl
      have k1 := hf 1 _ rfl
      obtain ⟨vb, lb, e0, hb⟩ := sl_raw (size := 2) (el := elBat) Tryz.underlying22 cellsBat (by decide) (fun h => bat_one h) k0
      obtain ⟨vw, lw, e1, hw⟩ := sl_raw (size := 2) (el := elBow) Tryz.underlying23 cellsBow (by decide) (fun h => bow_one h) k1
      have g0 : c0 = vb := by simpa [Value.cells, cellsBats, cellsBows] using e0
      have g1 : c1 = vw := by simpa [Value.cells, cellsBats, cellsBows] using e1
      subst g0 g1
      exact ⟨⟨lb, lw⟩, _, _, rfl, hb, hw⟩
end
end Go.Proofs.YtjchapoggmipbaaGreatDoor

namespace Go.Proofs.YtjchapoggmipbaaGreatDoor
open Go.RowKit

set_option maxRecDepth 100000 in
set_option maxHeartbeats 4000000 in
theorem ch44_Check (c : Chs) (bv wv pv ov : Value) (w : World) (h : ChAt w (· < w.heap.size) bv wv pv ov c) :
    Calls Tryz.prog 51 #[chV c bv wv pv ov] w fun e w' => e = .returned (.int .i64 (checkC c)) ∧ Below w.heap.size w w' := by
  unfold chV
  obtain ⟨z, hz⟩ : ∃ z, z = checkC c := ⟨_, rfl⟩
  rw [← hz]
  obtain ⟨A, ca, rfl, hc, hc2⟩ := h.mdl.bat.shape
  obtain ⟨A1, ca1, rfl, hc1, hc12⟩ := h.mdl.bow.shape
  obtain ⟨A2, ca2, rfl, hc3, hc32⟩ := h.bow.shape
  obtain ⟨A3, ca3, rfl, hc4, hc42⟩ := h.ord.shape
  have hx := ChB.new w c (.slice A c.mdl.bats.length ca) (.slice A1 c.mdl.bows.length ca1) (.slice A2 c.bows.length ca2) (.slice A3 c.ord.length ca3)
  have km := m_Check c.mdl _ _ _ (h.mdl.below hx.bel)
  have HM := Lib.hid h
  have HX := Lib.hid hx
  have hres := fun h1 h2 h3 => hz.trans (checkC_rest (c := c) h1 h2 h3)
  have hbad : checkM c.mdl ≠ 0 → z = checkM c.mdl := fun h => by rw [hz]; unfold checkC; rw [if_pos h]
  have hno : checkM c.mdl = 0 → c.bows.length = 0 → z = 6 := fun h h2 => by rw [hz]; unfold checkC; rw [if_neg (by omega), if_pos h2]
  have hmany : checkM c.mdl = 0 → c.bows.length ≠ 0 → 12 < c.bows.length → z = 9 := fun h h2 h3 => by rw [hz]; unfold checkC; rw [if_neg (by omega), if_neg h2, if_pos h3]
  obtain ⟨u, hu⟩ : ∃ u, u = checkM c.mdl := ⟨_, rfl⟩
  rw [← hu] at km hres hbad hno hmany
  clear hz h hx hu
  by_cases h0 : u = 0
  case neg =>
    have HZ := Lib.hid (hbad h0)
    have eu : (u != 0) = true := by simp [h0]
    have KM := Lib.hid km
    clear km hres hbad hno hmany h0
    go_enter Tryz.func51, Tryz.ntmps51
    go_wp2_with (go_at_call 50; refine KM.out.mono ?_; rintro e w2 ⟨rfl, hb2⟩; have HX2 := Lib.hid (HX.out.below hb2); obtain ⟨x0, x1, x2, x3, x4, x5, x6⟩ := HX2.out.cells; clear hb2)
    go_ret
    exact ⟨ret_i HZ.out.symm, HX2.out.bel⟩
  subst h0
  have KM := Lib.hid km
  clear km hbad
  by_cases h1 : c.bows.length = 0
  · have HZ := Lib.hid (hno rfl h1)
    have e1 : ((c.bows.length : Int) == 0) = true := beq_iff_eq.2 (by omega)
    have h1' := Lib.hid h1
    clear hres hno hmany h1
    go_enter Tryz.func51, Tryz.ntmps51
    go_wp2_with (go_at_call 50; refine KM.out.mono ?_; rintro e w2 ⟨rfl, hb2⟩; have HX2 := Lib.hid (HX.out.below hb2); obtain ⟨x0, x1, x2, x3, x4, x5, x6⟩ := HX2.out.cells; clear hb2)
    go_ret
    exact ⟨ret_i HZ.out.symm, HX2.out.bel⟩
  have e1 : ((c.bows.length : Int) == 0) = false := beq_eq_false_iff_ne.2 (by omega)
  by_cases h2 : 12 < c.bows.length
  · have HZ := Lib.hid (hmany rfl h1 h2)
    have e2 : (12 : Int) < (c.bows.length : Int) := by omega
    clear hres hno hmany h1 h2
    go_enter Tryz.func51, Tryz.ntmps51
    go_wp2_with (go_at_call 50; refine KM.out.mono ?_; rintro e w2 ⟨rfl, hb2⟩; have HX2 := Lib.hid (HX.out.below hb2); obtain ⟨x0, x1, x2, x3, x4, x5, x6⟩ := HX2.out.cells; clear hb2)
    go_ret
    exact ⟨ret_i HZ.out.symm, HX2.out.bel⟩
  have HZ0 := Lib.hid (hres rfl h1 h2)
  have e2 : ¬ (12 : Int) < (c.bows.length : Int) := by omega
  clear hres hno hmany h1 h2
  go_enter Tryz.func51, Tryz.ntmps51
  go_wp2_with (go_at_call 50; refine KM.out.mono ?_; rintro e w2 ⟨rfl, hb2⟩; have HX2 := Lib.hid (HX.out.below hb2); obtain ⟨x0, x1, x2, x3, x4, x5, x6⟩ := HX2.out.cells; clear hb2)
  go_loopw [27] (fun i wr => ∃ k : Nat, k ≤ c.bows.length ∧ i = .int .i64 k ∧ Hid (ChB w wr w.heap.size c (.slice A c.mdl.bats.length ca) (.slice A1 c.mdl.bows.length ca1) (.slice A2 c.bows.length ca2) (.slice A3 c.ord.length ca3)) ∧ Hid (z = restP c k)) (fun i _ => c.bows.length - (intOf i).toNat)
  case atStart => exact ⟨0, Nat.zero_le _, rfl, HX2, HZ0⟩
  case round =>
    clear HX2 HZ0 x0 x1 x2 x3 x4 x5 x6
    obtain ⟨k, hk, rfl, HW, hzz⟩ := hrel
    obtain ⟨x0, x1, x2, x3, x4, x5, x6⟩ := HW.out.cells
    by_cases hlt : k < c.bows.length
    · obtain ⟨b0, o, rfl, hbl, yy0⟩ := int_at HM.out.bow hlt
      have y0 := (HW.out.bel.cell (p := ⟨b0, o + k, none⟩) hbl).trans yy0
      have hz2 := hzz.out
      rw [restP_at hlt] at hz2
      obtain ⟨p, hp⟩ : ∃ p, p = c.bows[k] := ⟨_, rfl⟩
      rw [← hp] at hz2 y0
      clear hzz hp yy0
      by_cases g1 : p < 0
      · rw [if_pos (.inl g1)] at hz2
        have HZZ := Lib.hid hz2
        clear hz2
        go_wp2
        go_ret
        exact ⟨ret_i HZZ.out.symm, HW.out.bel⟩
      · by_cases g2 : (c.mdl.bows.length : Int) ≤ p
        · rw [if_pos (.inr g2)] at hz2
          have HZZ := Lib.hid hz2
          clear hz2
          go_wp2
          go_ret
          exact ⟨ret_i HZZ.out.symm, HW.out.bel⟩
        · rw [if_neg (by omega)] at hz2
          have HZZ := Lib.hid hz2
          clear hz2
          go_wp2
          go_roundw
          case rel => exact ⟨k + 1, by omega, by go_num, HW, HZZ⟩
          case measure => simp [intOf]; omega
    · obtain rfl : k = c.bows.length := by omega
      have hz2 := hzz.out
      rw [restP_end] at hz2
      have ht2 : rangeC c = true → z = 2 := fun h => by rw [hz2]; unfold tailC; rw [if_pos h]
      have ht9 : rangeC c = false → (c.ord.length < 2 ∨ 11 < c.ord.length) → z = 9 := fun h h2 => by rw [hz2]; unfold tailC; rw [if_neg (by simp [h]), if_pos h2]
      have htr : rangeC c = false → ¬ (c.ord.length < 2 ∨ 11 < c.ord.length) → z = restO c 0 := fun h h2 => hz2.trans (tailC_rest h h2)
      have hw := rangeC_ways c
      obtain ⟨over, hov⟩ : ∃ x, x = c.over := ⟨_, rfl⟩
      obtain ⟨done, hdo⟩ : ∃ x, x = c.done := ⟨_, rfl⟩
      obtain ⟨need, hne⟩ : ∃ x, x = c.need := ⟨_, rfl⟩
      rw [← hov, ← hdo, ← hne] at hw
      rw [← hov] at x3
      rw [← hdo] at x4
      rw [← hne] at x5
      clear hzz hz2 hov hdo hne
      rcases hw with ⟨hr, hw⟩ | ⟨hr, g1, g2, g3, g4, g5, g6⟩
      · have HZZ := Lib.hid (ht2 hr)
        clear ht2 ht9 htr hr
        rcases hw with g1 | ⟨g1, g2⟩ | ⟨g1, g2, g3⟩ | ⟨g1, g2, g3, g4⟩ | ⟨g1, g2, g3, g4, g5⟩ | ⟨g1, g2, g3, g4, g5, g6⟩
        all_goals go_wp2
        all_goals go_ret
        all_goals exact ⟨ret_i HZZ.out.symm, HW.out.bel⟩
      by_cases g7 : c.ord.length < 2
      · have HZZ := Lib.hid (ht9 hr (.inl g7))
        have g7' : (c.ord.length : Int) < 2 := by omega
        clear ht2 ht9 htr hr g7
        go_wp2
        go_ret
        exact ⟨ret_i HZZ.out.symm, HW.out.bel⟩
      by_cases g8 : 11 < c.ord.length
      · have HZZ := Lib.hid (ht9 hr (.inr g8))
        have g7' : ¬ (c.ord.length : Int) < 2 := by omega
        have g8' : (11 : Int) < (c.ord.length : Int) := by omega
        clear ht2 ht9 htr hr g7 g8
        go_wp2
        go_ret
        exact ⟨ret_i HZZ.out.symm, HW.out.bel⟩
      have HZ1 := Lib.hid (htr hr (by omega))
      have g7' : ¬ (c.ord.length : Int) < 2 := by omega
      have g8' : ¬ (11 : Int) < (c.ord.length : Int) := by omega
      have HW1 := HW
      clear ht2 ht9 htr hr g7 g8
      obtain ⟨wo, rfl⟩ : ∃ wo : World, wo = wr := ⟨_, rfl⟩
      go_wp2
      go_loopw [87] (fun i wr => ∃ k : Nat, k ≤ c.ord.length ∧ i = .int .i64 k ∧ Hid (ChB w wr w.heap.size c (.slice A c.mdl.bats.length ca) (.slice A1 c.mdl.bows.length ca1) (.slice A2 c.bows.length ca2) (.slice A3 c.ord.length ca3)) ∧ Hid (z = restO c k)) (fun i _ => c.ord.length - (intOf i).toNat)
      case atStart => exact ⟨0, Nat.zero_le _, rfl, HW1, HZ1⟩
      case round =>
        clear HW1 HZ1 HW x0 x1 x2 x3 x4 x5 x6
        obtain ⟨k, hk, rfl, HW, hzz⟩ := hrel
        obtain ⟨x0, x1, x2, x3, x4, x5, x6⟩ := HW.out.cells
        by_cases hlt : k < c.ord.length
        · obtain ⟨b0, o, rfl, hbl, yy0⟩ := int_at HM.out.ord hlt
          have y0 := (HW.out.bel.cell (p := ⟨b0, o + k, none⟩) hbl).trans yy0
          have hz2 := hzz.out
          rw [restO_at hlt] at hz2
          obtain ⟨p, hp⟩ : ∃ p, p = c.ord[k] := ⟨_, rfl⟩
          rw [← hp] at hz2 y0
          clear hzz hp yy0
          by_cases q1 : p < 0
          · rw [if_pos (.inl q1)] at hz2
            have HZZ := Lib.hid hz2
            clear hz2
            go_wp2
            go_ret
            exact ⟨ret_i HZZ.out.symm, HW.out.bel⟩
          by_cases q2 : (c.mdl.bats.length : Int) ≤ p
          · rw [if_pos (.inr q2)] at hz2
            have HZZ := Lib.hid hz2
            clear hz2
            go_wp2
            go_ret
            exact ⟨ret_i HZZ.out.symm, HW.out.bel⟩
          rw [if_neg (by omega)] at hz2
          have kc : ∀ W, Below w.heap.size w W → Calls Tryz.prog 26 #[.slice (some ⟨b0, o, none⟩) k ca3, .int .i64 p] W fun e W' => e = .returned (.bool (decide (p ∈ c.ord.take k))) ∧ Below W.heap.size W W' := fun W hW => by
            have ht := ((HM.out.below hW).ord.take (k := k) (by omega))
            have hl : (c.ord.take k).length = k := by rw [List.length_take]; omega
            exact int_Contains _ _ p _ W ht fun b h => h
          by_cases q3 : p ∈ c.ord.take k
          · rw [if_pos q3] at hz2
            rw [decide_eq_true q3] at kc
            have KC := Lib.hid kc
            have HZZ := Lib.hid hz2
            clear hz2 kc q3
            go_wp2_with (go_at_call 26; refine (KC.out _ HW.out.bel).mono ?_; rintro e w3 ⟨rfl, hb3⟩; have HX3 := Lib.hid (HW.out.below hb3); clear hb3)
            go_ret
            exact ⟨ret_i HZZ.out.symm, HX3.out.bel⟩
          · rw [if_neg q3] at hz2
            rw [decide_eq_false q3] at kc
            have KC := Lib.hid kc
            have HZZ := Lib.hid hz2
            clear hz2 kc q3
            go_wp2_with (go_at_call 26; refine (KC.out _ HW.out.bel).mono ?_; rintro e w3 ⟨rfl, hb3⟩; have HX3 := Lib.hid (HW.out.below hb3); clear hb3)
            go_roundw
            case rel => exact ⟨k + 1, by omega, by go_num, HX3, HZZ⟩
            case measure => simp [intOf]; omega
        · obtain rfl : k = c.ord.length := by omega
          have hz2 := hzz.out
          rw [restO_end] at hz2
          have HZ2 := Lib.hid hz2
          clear hzz hz2
          go_wp2
          go_ret
          exact ⟨ret_i HZ2.out.symm, HW.out.bel⟩
end Go.Proofs.YtjchapoggmipbaaGreatDoor

namespace Go.Proofs.YtjchapoggmipbaaGreatDoor
open Go.RowKit

end Go.Proofs.YtjchapoggmipbaaGreatDoor

namespace Go.Proofs.YtjchapoggmipbaaGreatDoor
open Go.RowKit

/-- A chase and a state boxed one behind the other. -/
structure CSB (w W : World) (g : Nat) (c : Chs) (bv wv pv ov : Value) (s : Cst) : Prop where
  bel : Below w.heap.size w W
  box : Blk W g 77 #[bv, wv, pv, .int .i64 c.over, .int .i64 c.done, .int .i64 c.need, ov]
  st : Blk W (g + 1) 79 #[.int .i64 s.ball, .int .i64 s.need, .int .i64 s.str, .int .i64 s.par, .int .i64 s.nxt]
section
variable {w W W' : World} {g : Nat} {c : Chs} {bv wv pv ov : Value} {s : Cst}
theorem CSB.below (h : CSB w W g c bv wv pv ov s) (hb : Below W.heap.size W W') : CSB w W' g c bv wv pv ov s := ⟨h.bel.trans (hb.mono h.bel.size), h.box.below hb h.box.lt, h.st.below hb h.st.lt⟩
theorem CSB.drew (h : CSB w W g c bv wv pv ov s) : CSB w W.drew g c bv wv pv ov s := ⟨Below.drew h.bel, h.box.drew, h.st.drew⟩
theorem CSB.cells (h : CSB w W g c bv wv pv ov s) : W.cell? ⟨g, 0, none⟩ = some bv ∧ W.cell? ⟨g, 1, none⟩ = some wv ∧ W.cell? ⟨g, 2, none⟩ = some pv ∧ W.cell? ⟨g, 3, none⟩ = some (.int .i64 c.over) ∧ W.cell? ⟨g, 4, none⟩ = some (.int .i64 c.done) ∧ W.cell? ⟨g, 5, none⟩ = some (.int .i64 c.need) ∧ W.cell? ⟨g, 6, none⟩ = some ov ∧
    W.cell? ⟨g + 1, 0, none⟩ = some (.int .i64 s.ball) ∧ W.cell? ⟨g + 1, 1, none⟩ = some (.int .i64 s.need) ∧ W.cell? ⟨g + 1, 2, none⟩ = some (.int .i64 s.str) ∧ W.cell? ⟨g + 1, 3, none⟩ = some (.int .i64 s.par) ∧ W.cell? ⟨g + 1, 4, none⟩ = some (.int .i64 s.nxt) :=
  ⟨h.box.cell 0, h.box.cell 1, h.box.cell 2, h.box.cell 3, h.box.cell 4, h.box.cell 5, h.box.cell 6, h.st.cell 0, h.st.cell 1, h.st.cell 2, h.st.cell 3, h.st.cell 4⟩
theorem CSB.new (w : World) (c : Chs) (bv wv pv ov : Value) (s : Cst) : CSB w ((w.alloc (.cells #[bv, wv, pv, .int .i64 c.over, .int .i64 c.done, .int .i64 c.need, ov] 77)).alloc (.cells #[.int .i64 s.ball, .int .i64 s.need, .int .i64 s.str, .int .i64 s.par, .int .i64 s.nxt] 79)) w.heap.size c bv wv pv ov s := by
  have h1 := ChB.new w c bv wv pv ov
  have h2 := Blk.new (w.alloc (.cells #[bv, wv, pv, .int .i64 c.over, .int .i64 c.done, .int .i64 c.need, ov] 77)) 79 #[.int .i64 s.ball, .int .i64 s.need, .int .i64 s.str, .int .i64 s.par, .int .i64 s.nxt]
  rw [World.size_alloc] at h2
  exact ⟨h1.bel.alloc h1.bel.size _, h1.box.alloc _, h2⟩
end
theorem stC_ways (c : Chs) (s : Cst) : (s.need = 0 ∧ stC c s = 2) ∨ (s.need ≠ 0 ∧ s.str < 0 ∧ stC c s = 3) ∨ (s.need ≠ 0 ∧ ¬ s.str < 0 ∧ s.ball = c.bows.length ∧ stC c s = 3) ∨ (s.need ≠ 0 ∧ ¬ s.str < 0 ∧ s.ball ≠ c.bows.length ∧ stC c s = 1) := by
  unfold stC
  by_cases h1 : s.need = 0
  · exact .inl ⟨h1, by rw [if_pos h1]⟩
  by_cases h2 : s.str < 0
  · exact .inr (.inl ⟨h1, h2, by rw [if_neg h1, if_pos (.inl h2)]⟩)
  by_cases h3 : s.ball = c.bows.length
  · exact .inr (.inr (.inl ⟨h1, h2, h3, by rw [if_neg h1, if_pos (.inr h3)]⟩))
  exact .inr (.inr (.inr ⟨h1, h2, h3, by rw [if_neg h1, if_neg (by omega)]⟩))
theorem ret_u8 {a b : Int} (h : a = b) : Ending.returned (.int .u8 a) = .returned (.int .u8 b) := by rw [h]
set_option maxRecDepth 100000 in
theorem ch_within (n lo hi : Int) (b : Bool) (hb : outC.inC n lo hi = b) (w : World) : Calls Tryz.prog 105 #[.int .i64 n, .int .i64 lo, .int .i64 hi] w fun e w' => e = .returned (.bool b) ∧ w' = w := by
  have HB := Lib.hid hb.symm
  unfold outC.inC at HB
  clear hb
  by_cases h1 : lo ≤ n
  · by_cases h2 : n ≤ hi
    · go_enter Tryz.func105, Tryz.ntmps105
      go_wp2
      go_ret
      exact ⟨ret_b (by rw [HB.out]; simp [h1, h2]), rfl⟩
    · go_enter Tryz.func105, Tryz.ntmps105
      go_wp2
      go_ret
      exact ⟨ret_b (by rw [HB.out]; simp [h1, h2]), rfl⟩
  · go_enter Tryz.func105, Tryz.ntmps105
    go_wp2
    go_ret
    exact ⟨ret_b (by rw [HB.out]; simp; omega), rfl⟩
set_option maxRecDepth 100000 in
set_option maxHeartbeats 4000000 in
theorem ch44_status (c : Chs) (s : Cst) (bv wv pv ov : Value) (w : World) (h : ChAt w (· < w.heap.size) bv wv pv ov c) (hs : OkS c s) :
    Calls Tryz.prog 59 #[chV c bv wv pv ov, stV s] w fun e w' => e = .returned (.int .u8 (stC c s)) ∧ Below w.heap.size w w' := by
  unfold chV stV
  obtain ⟨ball, need, str, par, nxt⟩ := s
  obtain ⟨A, ca, rfl, hc1, hc2⟩ := h.mdl.bat.shape
  obtain ⟨A1, ca1, rfl, hc3, hc4⟩ := h.mdl.bow.shape
  obtain ⟨A2, ca2, rfl, hc5, hc6⟩ := h.bow.shape
  obtain ⟨A3, ca3, rfl, hc7, hc8⟩ := h.ord.shape
  have hx := CSB.new w c (.slice A c.mdl.bats.length ca) (.slice A1 c.mdl.bows.length ca1) (.slice A2 c.bows.length ca2) (.slice A3 c.ord.length ca3) ⟨ball, need, str, par, nxt⟩
  have HX := Lib.hid hx
  have HM := Lib.hid h
  have hw := stC_ways c ⟨ball, need, str, par, nxt⟩
  have hm := hs.str.1
  obtain ⟨z, hz⟩ : ∃ z, z = stC c ⟨ball, need, str, par, nxt⟩ := ⟨_, rfl⟩
  rw [← hz] at hw ⊢
  dsimp only at hw hm
  clear hx h hs hz
  rcases hw with ⟨h1, hz⟩ | ⟨h1, h2, hz⟩ | ⟨h1, h2, h3, hz⟩ | ⟨h1, h2, h3, hz⟩
  · have e1 : (need == 0) = true := beq_iff_eq.2 h1
    have HZ := Lib.hid hz
    clear hz h1
    go_enter Tryz.func59, Tryz.ntmps59
    go_wp2
    go_ret
    exact ⟨ret_u8 HZ.out.symm, HX.out.bel⟩
  · have e1 : (need == 0) = false := beq_eq_false_iff_ne.2 h1
    have e2 : (str == -1) = true := beq_iff_eq.2 (by omega)
    have HZ := Lib.hid hz
    clear hz h1
    go_enter Tryz.func59, Tryz.ntmps59
    go_wp2
    go_ret
    exact ⟨ret_u8 HZ.out.symm, HX.out.bel⟩
  · have e1 : (need == 0) = false := beq_eq_false_iff_ne.2 h1
    have e2 : (str == -1) = false := beq_eq_false_iff_ne.2 (by omega)
    have e3 : (ball == (c.bows.length : Int)) = true := beq_iff_eq.2 h3
    have HZ := Lib.hid hz
    clear hz h1 h3
    go_enter Tryz.func59, Tryz.ntmps59
    go_wp2
    go_ret
    exact ⟨ret_u8 HZ.out.symm, HX.out.bel⟩
  · have e1 : (need == 0) = false := beq_eq_false_iff_ne.2 h1
    have e2 : (str == -1) = false := beq_eq_false_iff_ne.2 (by omega)
    have e3 : (ball == (c.bows.length : Int)) = false := beq_eq_false_iff_ne.2 h3
    have HZ := Lib.hid hz
    clear hz h1 h3
    go_enter Tryz.func59, Tryz.ntmps59
    go_wp2
    go_ret
    exact ⟨ret_u8 HZ.out.symm, HX.out.bel⟩
set_option maxRecDepth 100000 in
set_option maxHeartbeats 4000000 in
theorem ch44_checkState (c : Chs) (s : Cst) (bv wv pv ov : Value) (w : World) (h : ChAt w (· < w.heap.size) bv wv pv ov c) :
    Calls Tryz.prog 82 #[chV c bv wv pv ov, stV s] w fun e w' => e = .returned (.int .i64 (stateC c s)) ∧ Below w.heap.size w w' := by
  unfold chV stV
  obtain ⟨ball, need, str, par, nxt⟩ := s
  obtain ⟨A, ca, rfl, hc1, hc2⟩ := h.mdl.bat.shape
  obtain ⟨A1, ca1, rfl, hc3, hc4⟩ := h.mdl.bow.shape
  obtain ⟨A2, ca2, rfl, hc5, hc6⟩ := h.bow.shape
  obtain ⟨A3, ca3, rfl, hc7, hc8⟩ := h.ord.shape
  have hx := CSB.new w c (.slice A c.mdl.bats.length ca) (.slice A1 c.mdl.bows.length ca1) (.slice A2 c.bows.length ca2) (.slice A3 c.ord.length ca3) ⟨ball, need, str, par, nxt⟩
  have HX := Lib.hid hx
  have HM := Lib.hid h
  obtain ⟨z, hz⟩ : ∃ z, z = stateC c ⟨ball, need, str, par, nxt⟩ := ⟨_, rfl⟩
  rw [← hz]
  have hbad : outC c ⟨ball, need, str, par, nxt⟩ = true → z = 2 := fun h => by rw [hz]; unfold stateC; rw [if_pos h]
  have harg : outC c ⟨ball, need, str, par, nxt⟩ = false → (str = par ∨ (str = -1 ∧ nxt < c.ord.length)) → z = 1 := fun h h2 => by rw [hz]; unfold stateC; rw [if_neg (by simp [h]), if_pos h2]
  have hok : outC c ⟨ball, need, str, par, nxt⟩ = false → ¬ (str = par ∨ (str = -1 ∧ nxt < c.ord.length)) → z = 0 := fun h h2 => by rw [hz]; unfold stateC; rw [if_neg (by simp [h]), if_neg h2]
  clear hx h hz
  cases b0 : outC.inC ball 0 c.bows.length
  · have HZ := Lib.hid (hbad (by unfold outC; simp [b0]))
    clear hbad harg hok
    go_enter Tryz.func82, Tryz.ntmps82
    go_wp2_with (go_at_call 105; refine (ch_within _ _ _ _ (by first | exact b0 | exact b1 | exact b2 | exact b3 | exact b4) _).mono ?_; rintro e w2 ⟨rfl, rfl⟩)
    go_ret
    exact ⟨ret_i HZ.out.symm, HX.out.bel⟩
  cases b1 : outC.inC need 0 c.need
  · have HZ := Lib.hid (hbad (by unfold outC; simp [b0, b1]))
    clear hbad harg hok
    go_enter Tryz.func82, Tryz.ntmps82
    go_wp2_with (go_at_call 105; refine (ch_within _ _ _ _ (by first | exact b0 | exact b1 | exact b2 | exact b3 | exact b4) _).mono ?_; rintro e w2 ⟨rfl, rfl⟩)
    go_ret
    exact ⟨ret_i HZ.out.symm, HX.out.bel⟩
  cases b2 : outC.inC nxt 2 c.ord.length
  · have HZ := Lib.hid (hbad (by unfold outC; simp [b0, b1, b2]))
    clear hbad harg hok
    go_enter Tryz.func82, Tryz.ntmps82
    go_wp2_with (go_at_call 105; refine (ch_within _ _ _ _ (by first | exact b0 | exact b1 | exact b2 | exact b3 | exact b4) _).mono ?_; rintro e w2 ⟨rfl, rfl⟩)
    go_ret
    exact ⟨ret_i HZ.out.symm, HX.out.bel⟩
  have gn : 2 ≤ nxt ∧ nxt ≤ (c.ord.length : Int) := by have := b2; unfold outC.inC at this; simpa using this
  obtain ⟨gn1, gn2⟩ := gn
  cases b3 : outC.inC str (-1) (nxt - 1)
  · have HZ := Lib.hid (hbad (by unfold outC; simp [b0, b1, b2, b3]))
    clear hbad harg hok
    go_enter Tryz.func82, Tryz.ntmps82
    go_wp2_with (go_at_call 105; refine (ch_within _ _ _ _ (by first | exact b0 | exact b1 | exact b2 | exact b3 | exact b4) _).mono ?_; rintro e w2 ⟨rfl, rfl⟩)
    go_ret
    exact ⟨ret_i HZ.out.symm, HX.out.bel⟩
  cases b4 : outC.inC par 0 (nxt - 1)
  · have HZ := Lib.hid (hbad (by unfold outC; simp [b0, b1, b2, b3, b4]))
    clear hbad harg hok
    go_enter Tryz.func82, Tryz.ntmps82
    go_wp2_with (go_at_call 105; refine (ch_within _ _ _ _ (by first | exact b0 | exact b1 | exact b2 | exact b3 | exact b4) _).mono ?_; rintro e w2 ⟨rfl, rfl⟩)
    go_ret
    exact ⟨ret_i HZ.out.symm, HX.out.bel⟩
  have ho : outC c ⟨ball, need, str, par, nxt⟩ = false := by unfold outC; simp [b0, b1, b2, b3, b4]
  have hno := outC_no ho
  dsimp only at hno
  obtain ⟨⟨q1, q2⟩, ⟨q3, q4⟩, _, ⟨q5, q6⟩, ⟨q7, q8⟩⟩ := hno
  by_cases h1 : str = par
  · have HZ := Lib.hid (harg ho (.inl h1))
    have e1 : (str == par) = true := beq_iff_eq.2 h1
    have h1' := Lib.hid h1
    clear hbad harg hok ho h1
    go_enter Tryz.func82, Tryz.ntmps82
    go_wp2_with (go_at_call 105; refine (ch_within _ _ _ _ (by first | exact b0 | exact b1 | exact b2 | exact b3 | exact b4) _).mono ?_; rintro e w2 ⟨rfl, rfl⟩)
    go_ret
    exact ⟨ret_i HZ.out.symm, HX.out.bel⟩
  have e1 : (str == par) = false := beq_eq_false_iff_ne.2 h1
  by_cases h2 : str = -1
  · have e2 : (str == -1) = true := beq_iff_eq.2 h2
    by_cases h3 : nxt < (c.ord.length : Int)
    · have HZ := Lib.hid (harg ho (.inr ⟨h2, h3⟩))
      have h2' := Lib.hid h2
      clear hbad harg hok ho h1 h2
      go_enter Tryz.func82, Tryz.ntmps82
      go_wp2_with (go_at_call 105; refine (ch_within _ _ _ _ (by first | exact b0 | exact b1 | exact b2 | exact b3 | exact b4) _).mono ?_; rintro e w2 ⟨rfl, rfl⟩)
      go_ret
      exact ⟨ret_i HZ.out.symm, HX.out.bel⟩
    · have HZ := Lib.hid (hok ho (by rintro (h | h); exact h1 h; exact h3 h.2))
      have h2' := Lib.hid h2
      clear hbad harg hok ho h1 h2
      go_enter Tryz.func82, Tryz.ntmps82
      go_wp2_with (go_at_call 105; refine (ch_within _ _ _ _ (by first | exact b0 | exact b1 | exact b2 | exact b3 | exact b4) _).mono ?_; rintro e w2 ⟨rfl, rfl⟩)
      go_ret
      exact ⟨ret_i HZ.out.symm, HX.out.bel⟩
  · have e2 : (str == -1) = false := beq_eq_false_iff_ne.2 h2
    have HZ := Lib.hid (hok ho (by rintro (h | h); exact h1 h; exact h2 h.1))
    clear hbad harg hok ho h1 h2
    go_enter Tryz.func82, Tryz.ntmps82
    go_wp2_with (go_at_call 105; refine (ch_within _ _ _ _ (by first | exact b0 | exact b1 | exact b2 | exact b3 | exact b4) _).mono ?_; rintro e w2 ⟨rfl, rfl⟩)
    go_ret
    exact ⟨ret_i HZ.out.symm, HX.out.bel⟩
set_option maxRecDepth 100000 in
set_option maxHeartbeats 4000000 in
theorem ch44_CheckState (c : Chs) (s : Cst) (bv wv pv ov : Value) (w : World) (h : ChAt w (· < w.heap.size) bv wv pv ov c) :
    Calls Tryz.prog 58 #[chV c bv wv pv ov, stV s] w fun e w' => e = .returned (.int .i64 (chstC c s)) ∧ Below w.heap.size w w' := by
  unfold chV stV
  obtain ⟨ball, need, str, par, nxt⟩ := s
  obtain ⟨A, ca, rfl, hc1, hc2⟩ := h.mdl.bat.shape
  obtain ⟨A1, ca1, rfl, hc3, hc4⟩ := h.mdl.bow.shape
  obtain ⟨A2, ca2, rfl, hc5, hc6⟩ := h.bow.shape
  obtain ⟨A3, ca3, rfl, hc7, hc8⟩ := h.ord.shape
  have hx := CSB.new w c (.slice A c.mdl.bats.length ca) (.slice A1 c.mdl.bows.length ca1) (.slice A2 c.bows.length ca2) (.slice A3 c.ord.length ca3) ⟨ball, need, str, par, nxt⟩
  have HX := Lib.hid hx
  have HM := Lib.hid h
  obtain ⟨z, hz⟩ : ∃ z, z = chstC c ⟨ball, need, str, par, nxt⟩ := ⟨_, rfl⟩
  rw [← hz]
  unfold chstC at hz
  have k1 := fun W (hW : Below w.heap.size w W) => ch44_Check c _ _ _ _ W (HM.out.below hW)
  have k2 := fun W (hW : Below w.heap.size w W) => ch44_checkState c ⟨ball, need, str, par, nxt⟩ _ _ _ _ W (HM.out.below hW)
  unfold chV stV at k2
  unfold chV at k1
  dsimp only at k2
  obtain ⟨u, hu⟩ : ∃ u, u = checkC c := ⟨_, rfl⟩
  obtain ⟨v, hv⟩ : ∃ v, v = stateC c ⟨ball, need, str, par, nxt⟩ := ⟨_, rfl⟩
  rw [← hu] at k1 hz
  rw [← hv] at k2 hz
  have K1 := Lib.hid k1
  have K2 := Lib.hid k2
  have tok0 : True := trivial
  clear k1 k2 hu hv h hx
  by_cases h0 : u = 0
  · rw [if_neg (by omega)] at hz
    have HZ := Lib.hid hz
    have eu : (u != 0) = false := by simp [h0]
    clear hz h0
    go_enter Tryz.func58, Tryz.ntmps58
    go_wp2_with (first
      | (clear tok0; go_at_call 51; refine (K1.out _ HX.out.bel).mono ?_; rintro e w2 ⟨rfl, hb2⟩; have HX2 := Lib.hid (HX.out.below hb2); obtain ⟨x0, x1, x2, x3, x4, x5, x6, y0, y1, y2, y3, y4⟩ := HX2.out.cells; clear hb2; have tok1 : True := trivial)
      | (clear tok1; go_at_call 82; refine (K2.out _ HX2.out.bel).mono ?_; rintro e w3 ⟨rfl, hb3⟩; have HX3 := Lib.hid (HX2.out.below hb3); clear hb3; have tok2 : True := trivial))
    go_ret
    exact ⟨ret_i HZ.out.symm, HX3.out.bel⟩
  · rw [if_pos h0] at hz
    have HZ := Lib.hid hz
    have eu : (u != 0) = true := by simp [h0]
    clear hz h0
    go_enter Tryz.func58, Tryz.ntmps58
    go_wp2_with (clear tok0; go_at_call 51; refine (K1.out _ HX.out.bel).mono ?_; rintro e w2 ⟨rfl, hb2⟩; have HX2 := Lib.hid (HX.out.below hb2); obtain ⟨x0, x1, x2, x3, x4, x5, x6, y0, y1, y2, y3, y4⟩ := HX2.out.cells; clear hb2; have tok1 : True := trivial)
    go_ret
    exact ⟨ret_i HZ.out.symm, HX2.out.bel⟩
end Go.Proofs.YtjchapoggmipbaaGreatDoor
