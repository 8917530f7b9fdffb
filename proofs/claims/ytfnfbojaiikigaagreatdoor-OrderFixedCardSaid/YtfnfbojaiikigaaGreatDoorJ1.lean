/- The program's Norm: the list cloned, sorted by the library, merged. No conditions but that the list can be read. -/
import Derived.Test.YtfnfbojaiikigaaGreatDoorH11
import Derived.Test.YtfnfbojaiikigaaGreatDoorS2
import Derived.Test.YtfnfbojaiikigaaGreatDoorP60
import Derived.Test.YtfnfbojaiikigaaGreatDoorSort
set_option linter.unusedSimpArgs false
set_option linter.unusedVariables false
namespace Go.Proofs.YtfnfbojaiikigaaGreatDoor
open Go.RowKit

theorem elOtc_F : ∀ w (G G' : Nat → Prop) cs x, elOtc w G cs x → elOtc w G' cs x := fun _ _ _ _ _ h => h
theorem elOtc_one : ∀ w (F : Nat → Prop) cs x, elOtc w F cs x → ∀ u ∈ cs, u.oneCell' = true := by
  intro w F cs x h u hu
  rw [h] at hu
  simp only [List.mem_cons, List.not_mem_nil, or_false] at hu
  rcases hu with rfl | rfl | rfl <;> rfl
set_option maxRecDepth 100000 in
set_option maxHeartbeats 2000000 in
theorem otc_Clone (l : List Otc) (v : Value) (F : Nat → Prop) (w : World) (h : Sl 3 elOtc w F v l) (hF : ∀ b, F b → b < w.heap.size) (hl : l.length ≤ 1000) :
    Calls Tryz.prog 155 #[v] w fun e w' => ∃ A c, e = .returned (.slice A l.length c) ∧ OwnSl 3 elOtc 46 w.heap.size w' (.slice A l.length c) l ∧ Below w.heap.size w w' := by
  obtain ⟨A, c, rfl, hc, hc2⟩ := h.shape
  have q : ∀ (w : World) n c, (binOp .eql 42 (.slice A n c) (.slice none 0 0)).run Tryz.prog w = .ok (.bool A.isNone) w := fun w n c => Lib.run_eql_slice_nil w _ _ A n c 0 0 Tryz.underlying42
  cases A with
  | none =>
    have h0 : l = [] := by
      cases l with
      | nil => rfl
      | cons a l => obtain ⟨b, o, cs, hA, _⟩ := h.at (k := 0) (by simp); cases hA
    subst h0
    clear h hF hc hc2
    go_enter Tryz.func155, Tryz.ntmps155
    go_wp2
    go_ret
    exact ⟨_, _, rfl, OwnSl.nil _, Below.refl _ _⟩
  | some ad =>
    have hown : OwnG 3 elOtc 46 w.heap.size (w.alloc (.cells #[] 46)) (.slice (some ⟨w.heap.size, 0, none⟩) 0 0) NoG [] := ⟨[], rfl, World.ownsRow_made w #[] 0 (Nat.le_refl _) (by decide) rfl, by simp, by simp⟩
    have hb1 : Below w.heap.size w (w.alloc (.cells #[] 46)) := Below.alloc (Below.refl _ _) (Nat.le_refl _) _
    have hsl := h.keep elOtc_good (Same.below hb1 hF) (G := F) fun _ h => h
    have hz : w.heap.size ≤ (w.alloc (.cells #[] 46)).heap.size := by simp
    have HO := Lib.hid hown
    have HS := Lib.hid hsl
    have HB := Lib.hid hb1
    have HZ := Lib.hid hz
    have h63 : l.length ≤ maxLen := by simp only [maxLen]; omega
    have h64 : l.length * 24 ≤ 140737488355328 := by omega
    clear h hF hown hb1 hsl hz hc hc2 hl
    go_enter Tryz.func155, Tryz.ntmps155
    go_wp2_with (at_builtin; refine wpList_append_mine rfl (.tmp 5) (.tmp 6) _ rfl E_otc elOtc_good w.heap.size ⟨w.heap.size, 0, none⟩ l rfl HO.out F (some ad) l.length c rfl HS.out elOtc_F elOtc_one h63 h64 HZ.out ?_; intro A1 c1 w1 hs1 hb1; have HS1 := Lib.hid hs1; have HB1 := Lib.hid hb1; clear hs1 hb1)
    go_ret
    exact ⟨_, _, rfl, HS1.out, HB.out.trans HB1.out⟩
/-! ### slices.SortFunc by chance.order -/
instance instOtcJ : Inhabited Otc := ⟨⟨0, false, 0⟩⟩
def encO (o : Otc) : List Value := [.int .i64 o.runs, .bool o.wick, .int .i64 o.wt]
theorem ordS_lt (a b : Otc) : ordS a b < 0 ↔ a.runs < b.runs ∨ (a.runs = b.runs ∧ a.wick = false ∧ b.wick = true) := by
  unfold ordS
  by_cases h : a.runs = b.runs
  · rw [if_neg (by simpa using h)]
    cases ha : a.wick <;> cases hb : b.wick <;> simp [h]
  · rw [if_pos h]
    by_cases h2 : a.runs < b.runs
    · rw [if_pos h2]; simp [h2]
    · rw [if_neg h2]; simp [h2, h]
theorem swoO : Sort.SWO (ltOf ordS) where
  irrefl x := by unfold ltOf; rw [decide_eq_false_iff_not, ordS_lt]; simp
  trans x y z h1 h2 := by
    unfold ltOf at *
    rw [decide_eq_true_eq, ordS_lt] at *
    rcases h1 with h1 | ⟨h1, h3, h4⟩ <;> rcases h2 with h2 | ⟨h2, h5, h6⟩
    · left; omega
    · left; omega
    · left; omega
    · rw [h4] at h5; cases h5
  ntrans x y z h1 h2 := by
    unfold ltOf at *
    rw [decide_eq_false_iff_not, ordS_lt] at *
    rcases Int.lt_trichotomy x.runs z.runs with h | h | h
    · exfalso
      rcases Int.lt_or_le x.runs y.runs with h3 | h3
      · exact h1 (.inl h3)
      · exact h2 (.inl (by omega))
    · rintro (h3 | ⟨_, h4, h5⟩)
      · omega
      · rcases Int.lt_trichotomy x.runs y.runs with h6 | h6 | h6
        · exact h1 (.inl h6)
        · cases hy : y.wick with
          | true => exact h1 (.inr ⟨h6, h4, hy⟩)
          | false => exact h2 (.inr ⟨by omega, hy, h5⟩)
        · exact h2 (.inl (by omega))
    · rintro (h3 | ⟨h3, _⟩) <;> omega
theorem cmpLaysO (blk off size : Nat) (w : World) : CmpLays Tryz.prog 120 #[] encO 3 ordS blk off size w :=
  fun m os dk _ x y => (ch_orderE x y _).mono fun e w' h => ⟨h.1, 0, #[.cells #[.int .i64 x.runs, .bool x.wick, .int .i64 x.wt] 46] ++ #[.cells #[.int .i64 y.runs, .bool y.wick, .int .i64 y.wt] 46], h.2.trans (by rw [Sort.alloc_eq_grow, Sort.alloc_eq_grow, Sort.grow_grow]; rfl)⟩
theorem getD3 {α : Type} [Inhabited α] (l : List α) {i : Nat} (h : i < l.length) : l.toArray[i]! = l[i] := by simp [h]
theorem holds_own {l : List Otc} {B g cap : Nat} {W : World} (h : OwnSl 3 elOtc 46 B W (.slice (some ⟨g, 0, none⟩) l.length cap) l) : Sort.HoldsK encO 3 W g 0 l.toArray := by
  obtain ⟨css, hlen, ho, hsz, hel⟩ := h
  intro t ht
  rw [Sort.size_flatK] at ht
  have htl : t < l.length * 3 := by simpa using ht
  have hi : t / 3 < l.length := by omega
  have hcs : css[t / 3]? = some css[t / 3] := List.getElem?_eq_getElem (by omega)
  have he : css[t / 3] = encO l[t / 3] := hel (t / 3) l[t / 3] css[t / 3] (List.getElem?_eq_getElem hi) hcs
  have hc3 : t % 3 < (encO l[t / 3]).length := Nat.mod_lt _ (by decide)
  have hu : css[t / 3][t % 3]? = some (encO l[t / 3])[t % 3] := by rw [he, List.getElem?_eq_getElem hc3]
  have hf := flatten_get hsz hcs hu
  rw [show t / 3 * 3 + t % 3 = t from by omega] at hf
  refine ⟨?_, by rw [Nat.zero_add]; exact ho.frozenAt t⟩
  rw [Nat.zero_add, ho.cellAt t (by simpa using htl), hf, Sort.get_flatK _ _ _ _ ht, getD3 l hi]
  have : (encO l[t / 3])[t % 3]! = (encO l[t / 3])[t % 3] := getElem!_pos (encO l[t / 3]) (t % 3) hc3
  rw [this]
  rfl
theorem sl_holds {l : List Otc} {g cap n : Nat} {W : World} (hn : n = l.length) (h1 : l.length ≤ cap) (h2 : cap ≤ maxLen) (h : Sort.HoldsK encO 3 W g 0 l.toArray) : Sl 3 elOtc W (fun b => b = g) (.slice (some ⟨g, 0, none⟩) n cap) l := by
  subst hn
  refine ⟨_, cap, rfl, h1, h2, fun _ => ⟨g, 0, rfl, rfl, fun i a hi => ?_⟩⟩
  have hil := (List.getElem?_eq_some_iff.1 hi).1
  have hia : l[i] = a := (List.getElem?_eq_some_iff.1 hi).2
  refine ⟨encO a, rfl, fun j u hj => ?_, rfl⟩
  have hj3 : j < 3 := (List.getElem?_eq_some_iff.1 hj).1
  have := (h.cell (i := i) (c := j) (by simpa using hil) hj3).1
  rw [this, getD3 l hil, hia, getElem!_pos (encO a) j (show j < (encO a).length from hj3)]
  exact congrArg some (List.getElem?_eq_some_iff.1 hj).2
theorem only_sorted {w : World} {g n : Nat} {os : Array Obj} (d : Array Otc) : Only g w (sortWorldK encO 3 w g 0 n d os) := by
  refine ⟨rfl, rfl, rfl, by simp [sortWorldK, Sort.putRowK, Sort.putRow, Sort.mapBlock, Sort.grow, Sort.ahead], fun k hk hne => ?_⟩
  unfold sortWorldK Sort.putRowK
  rw [Sort.heap_grow_old _ _ (by simpa using hk)]
  have : g ≠ k := fun e => hne (by rw [e])
  simp [Sort.putRow, Sort.mapBlock, Sort.ahead, Array.getElem?_modify, this]
set_option maxHeartbeats 1000000 in
theorem otc_Sort (l : List Otc) (B g cap : Nat) (W : World) (h : OwnSl 3 elOtc 46 B W (.slice (some ⟨g, 0, none⟩) l.length cap) l) (hl : l.length ≤ 1000) :
    Calls Tryz.prog 156 #[.slice (some ⟨g, 0, none⟩) l.length cap, .func (.func 120) #[] #[]] W fun e w' => e = .returned (.tuple #[]) ∧
      ∃ l' : List Otc, l'.Perm l ∧ l'.length = l.length ∧ (l'.Pairwise fun a b => befB b a = false) ∧ Sl 3 elOtc w' (fun b => b = g) (.slice (some ⟨g, 0, none⟩) l.length cap) l' ∧ Only g W w' := by
  have hb := h.block g rfl
  have hcap : l.length ≤ cap ∧ cap ≤ maxLen := by
    obtain ⟨css, hlen, ho, _⟩ := h
    rcases ho.2 with ⟨hv, _⟩ | ⟨g', cap', cur, hv, _, _, h1, h2, _⟩
    · cases hv
    · injection hv with _ _ e; subst e; exact ⟨h1, h2⟩
  have eg : ∀ args w, (callFunc 120 args).run Tryz.prog w = .ok (.enter 120 args) w := enters_of Tryz.func120 (by kernel_rfl) rfl
  have hH := holds_own h
  have hcon := AnyQ.slices_SortFunc Tryz.sortOtc 3 Tryz.isAgg46 Tryz.sizeOf46 encO (fun _ => rfl) (fun x v hv => by simp [encO] at hv; rcases hv with rfl | rfl | rfl <;> rfl) ordS swoO 120 #[] g 0 cap l.toArray W eg (cmpLaysO g 0 l.toArray.size W) hH hb.2 (by simp; omega)
  change Calls Tryz.prog 156 _ _ _ at hcon
  have hsz : l.toArray.size = l.length := by simp
  rw [hsz] at hcon
  refine hcon.mono ?_
  rintro e w' ⟨rfl, d', n, os, hp, hs, rfl⟩
  have hds : d'.size = l.length := by rw [hp.1]; simp
  refine ⟨rfl, d'.toList, ?_, by simpa using hds, ?_, ?_, only_sorted d'⟩
  · have := hp.2.2
    rw [show d'.extract 0 l.length = d' from by rw [← hds]; simp, show l.toArray.extract 0 l.length = l.toArray from by simp] at this
    simpa using this
  · rw [List.pairwise_iff_getElem]
    intro i j hi hj hij
    have := hs i j (Nat.zero_le _) hij (by rw [← hds]; simpa using hj)
    unfold ltOf at this
    rw [getElem!_pos d' j (by simpa using hj), getElem!_pos d' i (by simpa using hi)] at this
    simpa [befB] using this
  · have hH2 := holdsK_sortWorldK_c encO 3 W g 0 l.toArray d' n os hH hb.2 (by rw [hds]; simp)
    refine sl_holds (by simpa using hds.symm) (by simp; omega) hcap.2 ?_
    simpa using hH2
end Go.Proofs.YtfnfbojaiikigaaGreatDoor
