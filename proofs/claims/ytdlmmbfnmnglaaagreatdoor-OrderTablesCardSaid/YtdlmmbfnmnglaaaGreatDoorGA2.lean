/- Several texts of this family in one: S2 J1 J2 J3 J5 P62 P64 J6 J7 J8 J9 J13 F0. -/
import Derived.Test.YtdlmmbfnmnglaaaGreatDoorGA0
import Derived.Deep.AppendSrc
import Derived.Deep.Upon
import Derived.Test.YtdlmmbfnmnglaaaGreatDoorGA1
import Derived.Test.YtdlmmbfnmnglaaaGreatDoorSort
import Derived.Deep.RegionHeld3
import Derived.Deep.CutBlock
import Derived.Deep.DeepCutAuto
import Derived.BigQuiet
set_option linter.unusedSimpArgs false
set_option linter.unusedVariables false
namespace Go.Proofs.YtdlmmbfnmnglaaaGreatDoor
open Go.RowKit

theorem flat_lenG {css : List (List Value)} {size : Nat} (h : ∀ cs ∈ css, cs.length = size) : css.flatten.length = css.length * size := by
  induction css with
  | nil => simp
  | cons x css ih => rw [List.flatten_cons, List.length_append, ih (fun cs hc => h cs (by simp [hc])), h x (by simp), List.length_cons, Nat.succ_mul]; omega

/-- The cells of a slice that is not empty. -/
theorem Sl.rowsG {α : Type} {size : Nat} {R : World → (Nat → Prop) → List Value → α → Prop} {w : World} {F : Nat → Prop} {b o n c : Nat} {l : List α} (h : Sl size R w F (.slice (some ⟨b, o, none⟩) n c) l) (hs : 0 < size) :
    ∃ css : List (List Value), css.length = l.length ∧ (∀ cs ∈ css, cs.length = size) ∧ (∀ j u, css.flatten[j]? = some u → w.cell? ⟨b, o + j, none⟩ = some u) ∧
      (∀ (i : Nat) (a : α) (cs : List Value), l[i]? = some a → css[i]? = some cs → R w F cs a) := by
  have key : ∀ m, m ≤ l.length → ∃ css : List (List Value), css.length = m ∧ (∀ cs ∈ css, cs.length = size) ∧ (∀ j u, css.flatten[j]? = some u → w.cell? ⟨b, o + j, none⟩ = some u) ∧
      (∀ (i : Nat) (a : α) (cs : List Value), l[i]? = some a → css[i]? = some cs → R w F cs a) := by
    intro m
    induction m with
    | zero => intro _; exact ⟨[], rfl, by simp, by simp, by simp⟩
    | succ m ih =>
      intro hm
      obtain ⟨css, h1, h2, h3, h4⟩ := ih (by omega)
      obtain ⟨b', o', cs, e, hF, hcl, hcc, hel⟩ := h.at (k := m) (by omega)
      simp only [Option.some.injEq, Addr.mk.injEq] at e
      obtain ⟨rfl, rfl, _⟩ := e
      have hfl : css.flatten.length = m * size := by
        rw [flat_lenG h2, h1]
      refine ⟨css ++ [cs], by simp [h1], ?_, ?_, ?_⟩
      · intro c hc
        rcases List.mem_append.1 hc with hc | hc
        · exact h2 c hc
        · simp at hc; subst hc; exact hcl
      · intro j u hu
        rw [List.flatten_append, List.flatten_singleton] at hu
        by_cases hj : j < css.flatten.length
        · rw [List.getElem?_append_left hj] at hu; exact h3 j u hu
        · rw [List.getElem?_append_right (by omega)] at hu
          have := hcc (j - css.flatten.length) u hu
          rw [hfl] at this hj
          rw [show o + m * size + (j - m * size) = o + j from by omega] at this
          exact this
      · intro i a c hi hc
        by_cases hil : i < css.length
        · rw [List.getElem?_append_left hil] at hc; exact h4 i a c hi hc
        · have hi2 := (List.getElem?_eq_some_iff.1 hc).1
          have : i = m := by simp at hi2; omega
          subst this
          rw [List.getElem?_append_right (by omega)] at hc
          rw [h1, Nat.sub_self] at hc
          simp at hc; subst hc
          rw [List.getElem?_eq_getElem (by omega)] at hi
          obtain rfl := Option.some.inj hi
          exact hel
  exact key l.length (Nat.le_refl _)

/-- append of a whole slice onto an empty row just made: the row is the call's own. -/
theorem step_append_mine {P : Program} {ops : Array Oper} {o : Oper} {a : Act} {w : World} {K : Act → World → Prop} {Q : Exit → Act → World → Prop} {E : Prop} (hgd : o.guard = none) (s x : Operand) (t : TypeId)
    (ho : o.op = .call { callee := .builtin .append, args := #[s, x], argTypes := #[t, t] })
    {e : TypeId} {size bytes : Nat} (hE : ElemOf P t e size bytes) {α : Type} {R : World → (Nat → Prop) → List Value → α → Prop} (hR : Good R)
    (base : Nat) (ad0 : Addr) (l' : List α) (hs : a.eval s = .slice (some ad0) 0 0) (hown : OwnG size R e base w (.slice (some ad0) 0 0) NoG [])
    (F : Nat → Prop) (A : Option Addr) (n c : Nat) (hx : a.eval x = .slice A n c) (hsl : Sl size R w F (.slice A n c) l')
    (hRF : ∀ w G G' cs x, R w G cs x → R w G' cs x)
    (h1 : ∀ w F cs x, R w F cs x → ∀ u ∈ cs, u.oneCell' = true)
    (h63 : l'.length ≤ maxLen) (hbytes : l'.length * bytes ≤ 140737488355328) (hbase : base ≤ w.heap.size)
    (h : ∀ A' c' w', OwnSl size R e base w' (.slice A' n c') l' → Below base w w' → K (a.put o.dst (.slice A' n c')) w') :
    if Region.wanted o (yielded ops a.tmps) = true then Oper.wp P o a w K Q else E := by
  have hw : Region.wanted o (yielded ops a.tmps) = true := by simp [Region.wanted, hgd]
  rw [if_pos hw]
  have hown0 := hown
  obtain ⟨i, z, e1, e2, e3, e4, e5, e6, e7⟩ := hE
  obtain ⟨A', c', hv, hlc, hcm, hA⟩ := hsl
  injection hv with hv1 hv2 hv3
  subst hv2; subst hv3
  by_cases h0 : 0 < l'.length
  · obtain ⟨b, o', hab, hFb, _⟩ := hA h0
    obtain ⟨css', hl', hsz', hcell', hel''⟩ := Sl.rowsG (l := l') (b := b) (o := o') (n := l'.length) (c := c) ⟨A', c, by rw [← hab], hlc, hcm, hA⟩ e7
    rw [hv1, hab] at hx
    obtain ⟨css, hlen, ho', hsz, hel'⟩ := hown
    have hcss : css = [] := List.eq_nil_of_length_eq_zero (by simpa using hlen)
    subst hcss
    obtain ⟨v', w', hr, h2, h3, _, h4⟩ := run_append_own_at (P := P) w base t o.type e i z size bytes e1 e2 e3 e4 e5 e6 e7 (.slice (some ad0) 0 0) 0 [] ho' ⟨b, o', none⟩ l'.length c css'.flatten (by rw [flat_lenG hsz', hl'])
      (fun j u hu => by rw [show (⟨b, o', none⟩ : Addr).add j = ⟨b, o' + j, none⟩ from Addr.add_lit b o' j]; exact hcell' j u hu) (fun u hu => by
        obtain ⟨cs, hc, hu'⟩ := List.mem_flatten.1 hu
        obtain ⟨k, hk⟩ := List.mem_iff_getElem?.1 hc
        have hil : k < l'.length := by have := (List.getElem?_eq_some_iff.1 hk).1; omega
        exact h1 w F cs _ (hel'' k l'[k] cs (List.getElem?_eq_getElem hil) hk) u hu') (by omega) (by simpa using hbytes) hbase
    have hnew : OwnSl size R e base w' v' l' := by
      refine ⟨css', hl', by simpa using h2, hsz', fun k x cs hk hc => ?_⟩
      exact hR.keep (G := NoG) (hRF _ F NoG _ _ (hel'' k x cs hk hc)) (fun _ h => h.elim) fun _ h => h
    have hsl' := hnew.sl hR
    obtain ⟨A2, c2, hv2, _⟩ := hsl'.shape
    subst hv2
    unfold Oper.wp execOp
    simp only [ho, resolve, invoke, builtin, Sem.run_bind, Sem.run_pure, Result.andThen_ok, List.map_toArray, List.map_cons, List.map_nil, hs, hx, hr]
    exact h _ _ _ hnew (below_own (Below.refl base w) hown0 h3 (Nat.le_refl _) hbase)
  · have hn : l' = [] := List.eq_nil_of_length_eq_zero (by omega)
    subst hn
    have hr : (Builtin.append_ #[t, t] o.type #[.slice (some ad0) 0 0, .slice A 0 c]).run P w = .ok (.slice (some ad0) 0 0) w := by
      cases A with
      | none => exact run_append_nothing w t t o.type e i e1 e2 (some ad0) 0 0 (Nat.le_refl _) _ (Src.ofNil w e1 c)
      | some ad => exact run_append_nothing w t t o.type e i e1 e2 (some ad0) 0 0 (Nat.le_refl _) _ (Src.ofSlice w e1 ad 0 c [] (by simp) (by simp) (by simp))
    simp only [List.length_nil] at hx h hr ⊢
    unfold Oper.wp execOp
    simp only [ho, resolve, invoke, builtin, Sem.run_bind, Sem.run_pure, Result.andThen_ok, List.map_toArray, List.map_cons, List.map_nil, hs, hx, hr]
    exact h (some ad0) 0 w hown0 (Below.refl _ _)
theorem flat_setG {α : Type} {size : Nat} : ∀ (css : List (List α)) (i j : Nat) (u : α), (∀ cs ∈ css, cs.length = size) → j < size → ∀ (hi : i < css.length), (css.set i (css[i].set j u)).flatten = css.flatten.set (i * size + j) u
  | cs :: css, 0, j, u, h, hj, _ => by
    have h0 := h cs (by simp)
    simp only [List.set_cons_zero, List.getElem_cons_zero, List.flatten_cons, Nat.zero_mul, Nat.zero_add]
    rw [List.set_append_left _ _ (by omega)]
  | cs :: css, i + 1, j, u, h, hj, hi => by
    have h0 := h cs (by simp)
    have ih := flat_setG css i j u (fun c hc => h c (by simp [hc])) hj (by simpa using hi)
    simp only [List.set_cons_succ, List.getElem_cons_succ, List.flatten_cons, ih]
    rw [List.set_append_right _ _ (by rw [h0, Nat.succ_mul]; omega), h0]
    congr 2
    rw [Nat.succ_mul]; omega
/-- A store into an element of a row of the call's own. -/
theorem OwnG.put {α : Type} {size e base : Nat} {R : World → (Nat → Prop) → List Value → α → Prop} {G : Nat → Prop} {w : World} {g n cap : Nat} {l : List α} (h : OwnG size R e base w (.slice (some ⟨g, 0, none⟩) n cap) G l)
    (hRw : ∀ w' cs a, R w G cs a → R w' G cs a) {i j : Nat} (hi : i < l.length) (hj : j < size) (u : Value) (a' : α) (hset : ∀ cs w', R w G cs l[i] → R w' G (cs.set j u) a') :
    OwnG size R e base (w.setCell ⟨g, i * size + j, none⟩ u) (.slice (some ⟨g, 0, none⟩) n cap) G (l.set i a') := by
  obtain ⟨css, hlen, ho, hsz, hel⟩ := h
  have hn : n = l.length := by
    rcases ho.2 with ⟨hv, _⟩ | ⟨g', cap', cur, hv, _⟩
    · cases hv
    · injection hv
  subst hn
  have hic : i < css.length := by omega
  have hst := (ho.stored (i * size + j) u).1
  rw [← flat_setG css i j u hsz hj hic] at hst
  refine ⟨css.set i (css[i].set j u), by simp [hlen], by simpa using hst, ?_, ?_⟩
  · intro cs hc
    rcases List.mem_or_eq_of_mem_set hc with h | h
    · exact hsz cs h
    · rw [h, List.length_set]; exact hsz _ (List.getElem_mem hic)
  · intro k a cs hk hc
    by_cases hki : k = i
    · subst hki
      rw [List.getElem?_set_self hi] at hk
      rw [List.getElem?_set_self hic] at hc
      obtain rfl := Option.some.inj hk
      obtain rfl := Option.some.inj hc
      exact hset _ _ (hel k _ _ (List.getElem?_eq_getElem hi) (List.getElem?_eq_getElem hic))
    · rw [List.getElem?_set_ne (fun e => hki e.symm)] at hk hc
      exact hRw _ _ _ (hel k a cs hk hc)
/-- The same at a list of operations. -/
theorem wpList_append_mine {P : Program} {ops : Array Oper} {rest : List Oper} {o : Oper} {a : Act} {w : World} {Q : Exit → Act → World → Prop} (hgd : o.guard = none) (s x : Operand) (t : TypeId)
    (ho : o.op = .call { callee := .builtin .append, args := #[s, x], argTypes := #[t, t] })
    {e : TypeId} {size bytes : Nat} (hE : ElemOf P t e size bytes) {α : Type} {R : World → (Nat → Prop) → List Value → α → Prop} (hR : Good R)
    (base : Nat) (ad0 : Addr) (l' : List α) (hs : a.eval s = .slice (some ad0) 0 0) (hown : OwnG size R e base w (.slice (some ad0) 0 0) NoG [])
    (F : Nat → Prop) (A : Option Addr) (n c : Nat) (hx : a.eval x = .slice A n c) (hsl : Sl size R w F (.slice A n c) l')
    (hRF : ∀ w G G' cs x, R w G cs x → R w G' cs x)
    (h1 : ∀ w F cs x, R w F cs x → ∀ u ∈ cs, u.oneCell' = true)
    (h63 : l'.length ≤ maxLen) (hbytes : l'.length * bytes ≤ 140737488355328) (hbase : base ≤ w.heap.size)
    (h : ∀ A' c' w', OwnSl size R e base w' (.slice A' n c') l' → Below base w w' → wpList P ops Q rest (a.put o.dst (.slice A' n c')) w') : wpList P ops Q (o :: rest) a w := by
  refine wpList_plain hgd fun K hK => ?_
  have := step_append_mine (ops := ops) (K := K) (Q := Q) (E := True) hgd s x t ho hE hR base ad0 l' hs hown F A n c hx hsl hRF h1 h63 hbytes hbase fun A' c' w' h2 h3 => hK _ _ (h A' c' w' h2 h3)
  rwa [if_pos (by simp [Region.wanted, hgd])] at this
end Go.Proofs.YtdlmmbfnmnglaaaGreatDoor

namespace Go.Proofs.YtdlmmbfnmnglaaaGreatDoor
open Go.RowKit

theorem elOtc_F : ∀ w (G G' : Nat → Prop) cs x, elOtc w G cs x → elOtc w G' cs x := fun _ _ _ _ _ h => h
theorem elOtc_one : ∀ w (F : Nat → Prop) cs x, elOtc w F cs x → ∀ u ∈ cs, u.oneCell' = true := by
  intro w F cs x h u hu
  rw [h] at hu
  simp only [List.mem_cons, List.not_mem_nil, or_false] at hu
  rcases hu with rfl | rfl | rfl <;> rfl
set_option maxRecDepth 100000 in
set_option maxHeartbeats 2000000 in
theorem otc_Clone (l : List Otc) (v : Value) (F : Nat → Prop) (w : World) (h : Sl 3 elOtc w F v l) (hF : ∀ b, F b → b < w.heap.size) (hl : l.length ≤ 1000) :
    Calls Tryz.prog 197 #[v] w fun e w' => ∃ A c, e = .returned (.slice A l.length c) ∧ OwnSl 3 elOtc 110 w.heap.size w' (.slice A l.length c) l ∧ Below w.heap.size w w' := by
  obtain ⟨A, c, rfl, hc, hc2⟩ := h.shape
  have q : ∀ (w : World) n c, (binOp .eql 56 (.slice A n c) (.slice none 0 0)).run Tryz.prog w = .ok (.bool A.isNone) w := fun w n c => Lib.run_eql_slice_nil w _ _ A n c 0 0 Tryz.underlying56
  cases A with
  | none =>
    have h0 : l = [] := by
      cases l with
      | nil => rfl
      | cons a l => obtain ⟨b, o, cs, hA, _⟩ := h.at (k := 0) (by simp); cases hA
    subst h0
    clear h hF hc hc2
    go_enter Tryz.func197, Tryz.ntmps197
    go_wp2
    go_ret
    exact ⟨_, _, rfl, OwnSl.nil _, Below.refl _ _⟩
  | some ad =>
    have hown : OwnG 3 elOtc 110 w.heap.size (w.alloc (.cells #[] 110)) (.slice (some ⟨w.heap.size, 0, none⟩) 0 0) NoG [] := ⟨[], rfl, World.ownsRow_made w #[] 0 (Nat.le_refl _) (by decide) rfl, by simp, by simp⟩
    have hb1 : Below w.heap.size w (w.alloc (.cells #[] 110)) := Below.alloc (Below.refl _ _) (Nat.le_refl _) _
    have hsl := h.keep elOtc_good (Same.below hb1 hF) (G := F) fun _ h => h
    have hz : w.heap.size ≤ (w.alloc (.cells #[] 110)).heap.size := by simp
    have HO := Lib.hid hown
    have HS := Lib.hid hsl
    have HB := Lib.hid hb1
    have HZ := Lib.hid hz
    have h63 : l.length ≤ maxLen := by simp only [maxLen]; omega
    have h64 : l.length * 24 ≤ 140737488355328 := by omega
    clear h hF hown hb1 hsl hz hc hc2 hl
    go_enter Tryz.func197, Tryz.ntmps197
    go_wp2_with (at_builtin; refine wpList_append_mine rfl (.tmp 5) (.tmp 6) _ rfl E_otc elOtc_good w.heap.size ⟨w.heap.size, 0, none⟩ l rfl HO.out F (some ad) l.length c rfl HS.out elOtc_F elOtc_one h63 h64 HZ.out ?_; intro A1 c1 w1 hs1 hb1; have HS1 := Lib.hid hs1; have HB1 := Lib.hid hb1; clear hs1 hb1)
    go_ret
    exact ⟨_, _, rfl, HS1.out, HB.out.trans HB1.out⟩
/-! ### slices.SortFunc by chance.order -/
instance instOtcJ : Inhabited Otc := ⟨⟨0, false, 0⟩⟩
def encO (o : Otc) : List Value := [.int .i64 o.runs, .bool o.wick, .int .i64 o.wt]
theorem ordS_lt (a b : Otc) : ordS a b < 0 ↔ a.runs < b.runs ∨ (a.runs = b.runs ∧ a.wick = false ∧ b.wick = true) := by
  unfold ordS
  by_cases h : a.runs = b.runs
  · rw [if_neg (by simpa using h)]
    cases ha : a.wick <;> cases hb : b.wick <;> simp [h]
  · rw [if_pos h]
    by_cases h2 : a.runs < b.runs
    · rw [if_pos h2]; simp [h2]
    · rw [if_neg h2]; simp [h2, h]
theorem swoO : Sort.SWO (ltOf ordS) where
  irrefl x := by unfold ltOf; rw [decide_eq_false_iff_not, ordS_lt]; simp
  trans x y z h1 h2 := by
    unfold ltOf at *
    rw [decide_eq_true_eq, ordS_lt] at *
    rcases h1 with h1 | ⟨h1, h3, h4⟩ <;> rcases h2 with h2 | ⟨h2, h5, h6⟩
    · left; omega
    · left; omega
    · left; omega
    · rw [h4] at h5; cases h5
  ntrans x y z h1 h2 := by
    unfold ltOf at *
    rw [decide_eq_false_iff_not, ordS_lt] at *
    rcases Int.lt_trichotomy x.runs z.runs with h | h | h
    · exfalso
      rcases Int.lt_or_le x.runs y.runs with h3 | h3
      · exact h1 (.inl h3)
      · exact h2 (.inl (by omega))
    · rintro (h3 | ⟨_, h4, h5⟩)
      · omega
      · rcases Int.lt_trichotomy x.runs y.runs with h6 | h6 | h6
        · exact h1 (.inl h6)
        · cases hy : y.wick with
          | true => exact h1 (.inr ⟨h6, h4, hy⟩)
          | false => exact h2 (.inr ⟨by omega, hy, h5⟩)
        · exact h2 (.inl (by omega))
    · rintro (h3 | ⟨h3, _⟩) <;> omega
theorem cmpLaysO (blk off size : Nat) (w : World) : CmpLays Tryz.prog 138 #[] encO 3 ordS blk off size w :=
  fun m os dk _ x y => (ch_orderE x y _).mono fun e w' h => ⟨h.1, 0, #[.cells #[.int .i64 x.runs, .bool x.wick, .int .i64 x.wt] 110] ++ #[.cells #[.int .i64 y.runs, .bool y.wick, .int .i64 y.wt] 110], h.2.trans (by rw [Sort.alloc_eq_grow, Sort.alloc_eq_grow, Sort.grow_grow]; rfl)⟩
theorem getD3 {α : Type} [Inhabited α] (l : List α) {i : Nat} (h : i < l.length) : l.toArray[i]! = l[i] := by simp [h]
theorem holds_own {l : List Otc} {B g cap : Nat} {W : World} (h : OwnSl 3 elOtc 110 B W (.slice (some ⟨g, 0, none⟩) l.length cap) l) : Sort.HoldsK encO 3 W g 0 l.toArray := by
  obtain ⟨css, hlen, ho, hsz, hel⟩ := h
  intro t ht
  rw [Sort.size_flatK] at ht
  have htl : t < l.length * 3 := by simpa using ht
  have hi : t / 3 < l.length := by omega
  have hcs : css[t / 3]? = some css[t / 3] := List.getElem?_eq_getElem (by omega)
  have he : css[t / 3] = encO l[t / 3] := hel (t / 3) l[t / 3] css[t / 3] (List.getElem?_eq_getElem hi) hcs
  have hc3 : t % 3 < (encO l[t / 3]).length := Nat.mod_lt _ (by decide)
  have hu : css[t / 3][t % 3]? = some (encO l[t / 3])[t % 3] := by rw [he, List.getElem?_eq_getElem hc3]
  have hf := flatten_get hsz hcs hu
  rw [show t / 3 * 3 + t % 3 = t from by omega] at hf
  refine ⟨?_, by rw [Nat.zero_add]; exact ho.frozenAt t⟩
  rw [Nat.zero_add, ho.cellAt t (by simpa using htl), hf, Sort.get_flatK _ _ _ _ ht, getD3 l hi]
  have : (encO l[t / 3])[t % 3]! = (encO l[t / 3])[t % 3] := getElem!_pos (encO l[t / 3]) (t % 3) hc3
  rw [this]
  rfl
theorem sl_holds {l : List Otc} {g cap n : Nat} {W : World} (hn : n = l.length) (h1 : l.length ≤ cap) (h2 : cap ≤ maxLen) (h : Sort.HoldsK encO 3 W g 0 l.toArray) : Sl 3 elOtc W (fun b => b = g) (.slice (some ⟨g, 0, none⟩) n cap) l := by
  subst hn
  refine ⟨_, cap, rfl, h1, h2, fun _ => ⟨g, 0, rfl, rfl, fun i a hi => ?_⟩⟩
  have hil := (List.getElem?_eq_some_iff.1 hi).1
  have hia : l[i] = a := (List.getElem?_eq_some_iff.1 hi).2
  refine ⟨encO a, rfl, fun j u hj => ?_, rfl⟩
  have hj3 : j < 3 := (List.getElem?_eq_some_iff.1 hj).1
  have := (h.cell (i := i) (c := j) (by simpa using hil) hj3).1
  rw [this, getD3 l hil, hia, getElem!_pos (encO a) j (show j < (encO a).length from hj3)]
  exact congrArg some (List.getElem?_eq_some_iff.1 hj).2
theorem only_sorted {w : World} {g n : Nat} {os : Array Obj} (d : Array Otc) : Only g w (sortWorldK encO 3 w g 0 n d os) := by
  refine ⟨rfl, rfl, rfl, by simp [sortWorldK, Sort.putRowK, Sort.putRow, Sort.mapBlock, Sort.grow, Sort.ahead], fun k hk hne => ?_⟩
  unfold sortWorldK Sort.putRowK
  rw [Sort.heap_grow_old _ _ (by simpa using hk)]
  have : g ≠ k := fun e => hne (by rw [e])
  simp [Sort.putRow, Sort.mapBlock, Sort.ahead, Array.getElem?_modify, this]
set_option maxHeartbeats 1000000 in
theorem otc_Sort (l : List Otc) (B g cap : Nat) (W : World) (h : OwnSl 3 elOtc 110 B W (.slice (some ⟨g, 0, none⟩) l.length cap) l) (hl : l.length ≤ 1000) :
    Calls Tryz.prog 198 #[.slice (some ⟨g, 0, none⟩) l.length cap, .func (.func 138) #[] #[]] W fun e w' => e = .returned (.tuple #[]) ∧
      ∃ l' : List Otc, l'.Perm l ∧ l'.length = l.length ∧ (l'.Pairwise fun a b => befB b a = false) ∧ Sl 3 elOtc w' (fun b => b = g) (.slice (some ⟨g, 0, none⟩) l.length cap) l' ∧ Only g W w' := by
  have hb := h.block g rfl
  have hcap : l.length ≤ cap ∧ cap ≤ maxLen := by
    obtain ⟨css, hlen, ho, _⟩ := h
    rcases ho.2 with ⟨hv, _⟩ | ⟨g', cap', cur, hv, _, _, h1, h2, _⟩
    · cases hv
    · injection hv with _ _ e; subst e; exact ⟨h1, h2⟩
  have eg : ∀ args w, (callFunc 138 args).run Tryz.prog w = .ok (.enter 138 args) w := enters_of Tryz.func138 (by kernel_rfl) rfl
  have hH := holds_own h
  have hcon := AnyQ.slices_SortFunc Tryz.sortOtc 3 Tryz.isAgg110 Tryz.sizeOf110 encO (fun _ => rfl) (fun x v hv => by simp [encO] at hv; rcases hv with rfl | rfl | rfl <;> rfl) ordS swoO 138 #[] g 0 cap l.toArray W eg (cmpLaysO g 0 l.toArray.size W) hH hb.2 (by simp; omega)
  change Calls Tryz.prog 198 _ _ _ at hcon
  have hsz : l.toArray.size = l.length := by simp
  rw [hsz] at hcon
  refine hcon.mono ?_
  rintro e w' ⟨rfl, d', n, os, hp, hs, rfl⟩
  have hds : d'.size = l.length := by rw [hp.1]; simp
  refine ⟨rfl, d'.toList, ?_, by simpa using hds, ?_, ?_, only_sorted d'⟩
  · have := hp.2.2
    rw [show d'.extract 0 l.length = d' from by rw [← hds]; simp, show l.toArray.extract 0 l.length = l.toArray from by simp] at this
    simpa using this
  · rw [List.pairwise_iff_getElem]
    intro i j hi hj hij
    have := hs i j (Nat.zero_le _) hij (by rw [← hds]; simpa using hj)
    unfold ltOf at this
    rw [getElem!_pos d' j (by simpa using hj), getElem!_pos d' i (by simpa using hi)] at this
    simpa [befB] using this
  · have hH2 := holdsK_sortWorldK_c encO 3 W g 0 l.toArray d' n os hH hb.2 (by rw [hds]; simp)
    refine sl_holds (by simpa using hds.symm) (by simp; omega) hcap.2 ?_
    simpa using hH2
end Go.Proofs.YtdlmmbfnmnglaaaGreatDoor

namespace Go.Proofs.YtdlmmbfnmnglaaaGreatDoor
open Go.RowKit

theorem badN_ways (o : Otc) : (badN o = true ∧ ((decide (o.runs < 0) = true) ∨ (decide (o.runs < 0) = false ∧ decide (7 < o.runs) = true) ∨ (decide (o.runs < 0) = false ∧ decide (7 < o.runs) = false ∧ decide (o.wt < 0) = true) ∨ (decide (o.runs < 0) = false ∧ decide (7 < o.runs) = false ∧ decide (o.wt < 0) = false ∧ decide (16 < o.wt) = true)))
    ∨ (badN o = false ∧ decide (o.runs < 0) = false ∧ decide (7 < o.runs) = false ∧ decide (o.wt < 0) = false ∧ decide (16 < o.wt) = false) := by
  unfold badN
  cases decide (o.runs < 0) <;> cases decide (7 < o.runs) <;> cases decide (o.wt < 0) <;> cases decide (16 < o.wt) <;> simp
theorem norm_long {d : List Otc} (h : 64 < d.length) : normS d = ([], 9) := by unfold normS; rw [if_pos h]
theorem norm_bad {d : List Otc} (h : ¬ 64 < d.length) {o : Otc} (ho : o ∈ d) (hb : badN o = true) : normS d = ([], 2) := by
  unfold normS; rw [if_neg h, if_pos (List.any_eq_true.2 ⟨o, ho, hb⟩)]
theorem any_good {d : List Otc} (ho : ∀ o ∈ d, badN o = false) : ¬ d.any badN = true := fun h => by
  obtain ⟨o, hx, hb⟩ := List.any_eq_true.1 h
  rw [ho o hx] at hb; cases hb
theorem norm_sum {d : List Otc} (h : ¬ 64 < d.length) (ho : ∀ o ∈ d, badN o = false) (hs : sumI (d.map (·.wt)) ≠ 16) : normS d = ([], 12) := by
  unfold normS; rw [if_neg h, if_neg (any_good ho), if_pos hs]
theorem norm_fine {d : List Otc} (h : ¬ 64 < d.length) (ho : ∀ o ∈ d, badN o = false) (hs : sumI (d.map (·.wt)) = 16) : normS d = (canon (wAt d), 0) := by
  unfold normS; rw [if_neg h, if_neg (any_good ho), if_neg (by omega)]
theorem take_good {d : List Otc} {k : Nat} (hk : k < d.length) (h : ∀ o ∈ d.take k, badN o = false) (h1 : badN d[k] = false) : ∀ o ∈ d.take (k + 1), badN o = false := by
  intro o ho
  rw [List.take_add_one, List.getElem?_eq_getElem hk, List.mem_append] at ho
  rcases ho with ho | ho
  · exact h o ho
  · simp at ho; rw [ho]; exact h1
theorem otc_nil {w w' : World} {n : Int} (hb : Below w.heap.size w w') {z : List Otc × Int} (hz : z = ([], n)) : OtcPost w z (.returned (.tuple #[.slice none 0 0, .int .i64 n])) w' := by
  subst hz; exact ⟨_, rfl, Sl.nil _ _, hb⟩
theorem sorted_keys {l : List Otc} (ho : ∀ o ∈ l, badN o = false) (h : l.Pairwise fun a b => befB b a = false) : l.Pairwise fun a b => keyO a ≤ keyO b := by
  rw [List.pairwise_iff_getElem] at h ⊢
  intro i j hi hj hij
  have h1 := h i j hi hj hij
  have hai := (badN_no (ho _ (List.getElem_mem hi))).r0
  have haj := (badN_no (ho _ (List.getElem_mem hj))).r0
  rw [bef_key haj hai, decide_eq_false_iff_not] at h1
  omega
theorem merge_skip {out l : List Otc} {o : Otc} (h : o.wt = 0) : mergeF out (o :: l) = mergeF out l := by rw [mergeF, if_pos h]
theorem merge_first {l : List Otc} {o : Otc} (h : o.wt ≠ 0) : mergeF [] (o :: l) = mergeF [o] l := by rw [mergeF, if_neg h]; rfl
theorem merge_new {out l : List Otc} {o p : Otc} {k : Nat} (hk : out.length = k + 1) (hp : out[k]? = some p) (h : o.wt ≠ 0) (ho : ordS p o ≠ 0) : mergeF out (o :: l) = mergeF (out ++ [o]) l := by
  have e : out.getLast? = some p := by rw [List.getLast?_eq_getElem?, show out.length - 1 = k from by omega, hp]
  rw [mergeF, if_neg h, e]
  simp only [ho, if_false]
theorem merge_same {out l : List Otc} {o p : Otc} {k : Nat} (hk : out.length = k + 1) (hp : out[k]? = some p) (h : o.wt ≠ 0) (ho : ordS p o = 0) :
    mergeF out (o :: l) = mergeF (out.set k { p with wt := p.wt + o.wt }) l := by
  have e : out.getLast? = some p := by rw [List.getLast?_eq_getElem?, show out.length - 1 = k from by omega, hp]
  have e2 : ∀ x, out.dropLast ++ [x] = out.set k x := fun x => by
    rw [List.dropLast_eq_take, show out.length - 1 = k from by omega, List.set_eq_take_append_cons_drop, if_pos (by omega), List.drop_of_length_le (by omega)]
  rw [mergeF, if_neg h, e]
  simp only [ho, if_true]
  rw [e2]
/-- While the sorted list is merged: it lies in block g; the row of those that are out is younger. -/
structure Mg (w : World) (g : Nat) (B2 : Nat) (sv : Value) (l : List Otc) (W : World) (ov : Value) (out : List Otc) : Prop where
  bel : Below w.heap.size w W
  hg : w.heap.size ≤ g ∧ g < B2
  hB : B2 ≤ W.heap.size
  so : Sl 3 elOtc W (fun b => b = g) sv l
  own : OwnSl 3 elOtc 110 B2 W ov out
section
variable {w W W' : World} {g B2 : Nat} {sv ov : Value} {l out : List Otc}
theorem Mg.below (h : Mg w g B2 sv l W ov out) (hb : Below W.heap.size W W') : Mg w g B2 sv l W' ov out :=
  ⟨h.bel.trans (hb.mono h.bel.size), h.hg, Nat.le_trans h.hB hb.size, h.so.keep elOtc_good (Same.below hb fun b (hx : b = g) => by have := h.hg; have := h.hB; omega) fun _ h => h, h.own.below elOtc_good hb⟩
theorem Mg.out_at {A : Option Addr} {n c k : Nat} (h : Mg w g B2 sv l W (.slice A n c) out) (hk : k < out.length) : ∃ g2, A = some ⟨g2, 0, none⟩ ∧ n = out.length ∧ B2 ≤ g2 ∧ g2 < W.heap.size ∧ W.cell? ⟨g2, k * 3, none⟩ = some (.int .i64 out[k].runs) ∧ W.cell? ⟨g2, k * 3 + 1, none⟩ = some (.bool out[k].wick) ∧ W.cell? ⟨g2, k * 3 + 2, none⟩ = some (.int .i64 out[k].wt) ∧ W.frozen? ⟨g2, k * 3 + 2, none⟩ = false := by
  have hs := h.own.sl elOtc_good
  obtain ⟨A', c', hv, _⟩ := hs.shape
  injection hv with e1 e2 e3
  obtain ⟨b, o, rfl, hF, y0, y1, y2⟩ := otc_at (e1 ▸ e2 ▸ hs) hk
  obtain ⟨css, h1, h2, h3, h4⟩ := h.own
  rcases h2.2 with ⟨hv, hn⟩ | ⟨g', cap', cur, hv, _⟩
  · exfalso; omega
  · simp only [Value.slice.injEq, Option.some.injEq, Addr.mk.injEq] at hv
    obtain ⟨⟨rfl, rfl, _⟩, _⟩ := hv
    simp only [Option.some.injEq, Addr.mk.injEq, and_true] at e1
    obtain ⟨rfl, rfl⟩ := e1
    rw [Nat.zero_add] at y0 y1 y2
    subst e2
    exact ⟨_, rfl, rfl, hF.1, hF.2, y0, y1, y2, h2.frozenAt _⟩
theorem Mg.at2 {g2 n c k : Nat} (h : Mg w g B2 sv l W (.slice (some ⟨g2, 0, none⟩) n c) out) (hk : k < out.length) : W.cell? ⟨g2, k * 3, none⟩ = some (.int .i64 out[k].runs) ∧ W.cell? ⟨g2, k * 3 + 1, none⟩ = some (.bool out[k].wick) ∧ W.cell? ⟨g2, k * 3 + 2, none⟩ = some (.int .i64 out[k].wt) ∧ W.frozen? ⟨g2, k * 3 + 2, none⟩ = false := by
  obtain ⟨g', e, _, _, _, h1⟩ := h.out_at hk
  simp only [Option.some.injEq, Addr.mk.injEq, and_true] at e
  subst e
  exact h1
theorem Mg.put {g2 n c k : Nat} (h : Mg w g B2 sv l W (.slice (some ⟨g2, 0, none⟩) n c) out) (hk : k < out.length) (x : Int) : Mg w g B2 sv l (W.setCell ⟨g2, k * 3 + 2, none⟩ (.int .i64 x)) (.slice (some ⟨g2, 0, none⟩) n c) (out.set k { out[k] with wt := x }) := by
  have hb := h.own.block g2 rfl
  have hg := h.hg
  have ho := (Only.refl g2 W).setCell (p := ⟨g2, k * 3 + 2, none⟩) (.inl rfl) (.int .i64 x)
  have hB := h.hB
  refine ⟨h.bel.setCell (by show w.heap.size ≤ g2; omega) _, h.hg, by simp; omega, h.so.keep elOtc_good (ho.same fun b (hx : b = g) => ⟨by omega, by omega⟩) fun _ h => h, ?_⟩
  exact OwnG.put h.own (fun _ _ _ h => h) hk (show 2 < 3 by decide) (.int .i64 x) { out[k] with wt := x } fun c9 w9 h9 => by rw [show c9 = _ from h9]; rfl
theorem Mg.app {v' : Value} {o : Otc} (h : Mg w g B2 sv l W ov out) (hown : OwnSl 3 elOtc 110 B2 W' v' (out ++ [o])) (hg : W.grownBy W' ov.ownBlock) : Mg w g B2 sv l W' v' (out ++ [o]) := by
  have hgg := h.hg
  have hB := h.hB
  refine ⟨below_own h.bel h.own hg (by omega) h.hB, h.hg, Nat.le_trans h.hB hg.size, h.so.keep elOtc_good (Same.grown hg fun b (hx : b = g) => ⟨by omega, fun e => ?_⟩) fun _ h => h, hown⟩
  have := h.own.block b e.symm
  omega
end
theorem own_len {W : World} {B : Nat} {ov : Value} {out : List Otc} (h : OwnSl 3 elOtc 110 B W ov out) : ∃ A c, ov = .slice A out.length c := by
  obtain ⟨A, c, hv, _⟩ := (h.sl elOtc_good).shape
  exact ⟨A, c, hv⟩
theorem room1 {k n : Nat} (h : n ≤ k) (hk : k < 1000) : n + 1 ≤ maxLen ∧ (n + 1) * 24 ≤ 140737488355328 := by simp only [maxLen]; omega
theorem base1 {B : Nat} {W : World} (h : B ≤ W.heap.size) (o : Obj) : B ≤ (W.alloc o).heap.size := by simp; omega
theorem own_some {W : World} {B n c : Nat} {A : Option Addr} {out : List Otc} (h : OwnSl 3 elOtc 110 B W (.slice A n c) out) (h0 : 0 < out.length) : ∃ g, A = some ⟨g, 0, none⟩ := by
  obtain ⟨css, h1, h2, h3, h4⟩ := h
  rcases h2.2 with ⟨hv, hn⟩ | ⟨g', cap', cur, hv, _⟩
  · omega
  · injection hv with e1 _ _; exact ⟨g', e1⟩
set_option maxRecDepth 100000 in
set_option maxHeartbeats 4000000 in
theorem ch_Norm (d : List Otc) (v : Value) (w : World) (h : Sl 3 elOtc w (· < w.heap.size) v d) : Calls Tryz.prog 150 #[v] w (OtcPost w (normS d)) := by
  obtain ⟨z, hz⟩ : ∃ z, z = normS d := ⟨_, rfl⟩
  rw [← hz]
  obtain ⟨A, c, rfl, hc, hc2⟩ := h.shape
  by_cases h64 : 64 < d.length
  · rw [norm_long h64] at hz
    have e64 : (64 : Int) < (d.length : Int) := by omega
    have HZ := Lib.hid hz
    clear hz h h64
    go_enter Tryz.func150, Tryz.ntmps150
    go_wp2
    go_ret2
    exact otc_nil (Below.refl _ _) HZ.out
  · have e64 : (d.length : Int) ≤ 64 := by omega
    have HZ := Lib.hid hz
    have H := Lib.hid h
    have HN := Lib.hid h64
    clear hz h h64
    go_enter Tryz.func150, Tryz.ntmps150
    go_wp2
    go_loopw [4, 17] (fun sv i wr => ∃ (k : Nat) (s : Int), k ≤ d.length ∧ i = .int .i64 k ∧ sv = .int .i64 s ∧ 0 ≤ s ∧ s ≤ 16 * k ∧ Below w.heap.size w wr ∧ Hid (s = sumI ((d.take k).map (·.wt))) ∧ Hid (∀ o ∈ d.take k, badN o = false))
      (fun _ i _ => d.length - (intOf i).toNat)
    case atStart => exact ⟨0, 0, Nat.zero_le _, rfl, rfl, by omega, by omega, Below.refl _ _, Lib.hid rfl, Lib.hid (by simp)⟩
    case round =>
      obtain ⟨k, s, hk, rfl, rfl, hs0, hs1, hb, hss, hgd⟩ := hrel
      have HB := Lib.hid hb
      by_cases hlt : k < d.length
      · obtain ⟨b, o, rfl, hbl, y0', y1', y2'⟩ := otc_at H.out hlt
        have hst := sumI_map_take (f := fun o : Otc => o.wt) hlt
        rw [← hss.out] at hst
        have hgt := fun h1 => take_good hlt hgd.out h1
        have hbt := fun h1 => norm_bad HN.out (List.getElem_mem hlt) h1
        obtain ⟨⟨pr, pw, pt⟩, hp⟩ : ∃ p, p = d[k] := ⟨_, rfl⟩
        rw [← hp] at y0' y1' y2' hst hgt hbt
        have y0 := (hb.cell (p := ⟨b, o + k * 3, none⟩) hbl).trans y0'
        have y1 := (hb.cell (p := ⟨b, o + k * 3 + 1, none⟩) hbl).trans y1'
        have y2 := (hb.cell (p := ⟨b, o + k * 3 + 2, none⟩) hbl).trans y2'
        dsimp only at y0 y1 y2 hst
        rcases badN_ways ⟨pr, pw, pt⟩ with ⟨hB, hw⟩ | ⟨hB, e1, e2, e3, e4⟩
        · have hz2 : z = ([], 2) := by rw [HZ.out, hbt hB]
          have HZZ := Lib.hid hz2
          clear hb hss hgd hp hst hgt hbt y0' y1' y2' hz2 hB
          rcases hw with e1 | ⟨e1, e2⟩ | ⟨e1, e2, e3⟩ | ⟨e1, e2, e3, e4⟩
          all_goals
            dsimp only at *
            go_wp2
            go_ret2
            exact otc_nil (Below.alloc HB.out HB.out.size _) HZZ.out
        · have hok := badN_no hB
          have hw0 := hok.w0
          have hw16 := hok.w16
          dsimp only at e1 e2 e3 e4 hw0 hw16
          have HST := Lib.hid hst.symm
          have HGT := Lib.hid (hgt hB)
          clear hb hss hgd hp hst hgt hbt y0' y1' y2' hB hok
          go_wp2
          go_roundw
          case rel => exact ⟨k + 1, _, by omega, by go_num, rfl, by omega, by push_cast; omega, Below.alloc HB.out HB.out.size _, HST, HGT⟩
          case measure => simp [intOf]; omega
      · obtain rfl : k = d.length := by omega
        have hs2 := hss.out
        have hg2 := hgd.out
        rw [List.take_of_length_le (Nat.le_refl _)] at hs2 hg2
        by_cases h16 : s = 16
        · have hz2 := HZ.out
          rw [norm_fine HN.out hg2 (by rw [← hs2]; exact h16)] at hz2
          have hne : d ≠ [] := fun e => by rw [e] at hs2; rw [h16] at hs2; simp [sumI_nil] at hs2
          have hlen : d.length ≤ 1000 := by omega
          have hsl := H.out.keep elOtc_good (Same.of_below hb) (G := (· < w.heap.size)) fun _ h => h
          have kc := otc_Clone d _ (· < w.heap.size) wr hsl (fun b hx => Nat.lt_of_lt_of_le hx hb.size) hlen
          have ks := fun B g cap W (h : OwnSl 3 elOtc 110 B W (.slice (some ⟨g, 0, none⟩) d.length cap) d) => otc_Sort d B g cap W h hlen
          have hmerge : ∀ l : List Otc, l.Perm d → (l.Pairwise fun a b => befB b a = false) → mergeF [] l = canon (wAt d) ∧ ∀ o ∈ l, badN o = false := fun l hp hw => by
            have ho : ∀ o ∈ l, badN o = false := fun o hx => hg2 o (hp.mem_iff.1 hx)
            exact ⟨merge_norm hp (fun o hx => badN_no (hg2 o hx)) (sorted_keys ho hw), ho⟩
          have HZZ := Lib.hid hz2
          have KC := Lib.hid kc
          have KS := Lib.hid ks
          have HM := Lib.hid hmerge
          have hpos : 0 < d.length := List.length_pos_iff.2 hne
          have tok0 : True := trivial
          subst h16
          clear hb hss hgd hs2 hg2 hz2 hne hlen hsl kc ks hmerge hs0 hs1 HZ
          go_wp2_with (first
            | (clear tok0; go_at_call 197; refine KC.out.mono ?_; rintro e w2 ⟨A2, c2, rfl, ho2, hb2⟩; obtain ⟨g, rfl⟩ := own_some ho2 hpos; have HO2 := Lib.hid ho2; have HB2 := Lib.hid (HB.out.trans (hb2.mono HB.out.size)); have hgb := ho2.block g rfl; have HGB := Lib.hid (show w.heap.size ≤ g ∧ g < w2.heap.size from ⟨Nat.le_trans HB.out.size hgb.1, hgb.2⟩); clear ho2 hb2 hgb; have tok1 : True := trivial)
            | (clear tok1; go_at_call 198; refine (KS.out _ _ _ _ HO2.out).mono ?_; rintro e w3 ⟨rfl, l, hp3, hl3, hw3, hs3, ho3⟩; have HP3 := Lib.hid hp3; have HL3 := Lib.hid hl3; have HW3 := Lib.hid hw3; have HS3 := Lib.hid hs3; have HB3 := Lib.hid (HB2.out.trans (ho3.below HGB.out.1 HB2.out.size)); have HZ3 := Lib.hid ho3.size; clear hp3 hl3 hw3 hs3 ho3; have tok2 : True := trivial))
          have hmg : Mg w g w3.heap.size (.slice (some ⟨g, 0, none⟩) d.length c2) l w3 (.slice none 0 0) [] := ⟨HB3.out, ⟨HGB.out.1, by have := HGB.out.2; have := HZ3.out; omega⟩, Nat.le_refl _, HS3.out, OwnSl.nil _⟩
          obtain ⟨hm1, hm2⟩ := HM.out l HP3.out HW3.out
          have hlen : d.length = l.length := HL3.out.symm
          have HMG := Lib.hid hmg
          have HM1 : Hid (mergeF [] (l.drop 0) = canon (wAt d)) := Lib.hid hm1
          have HM2 := Lib.hid hm2
          have HLE := Lib.hid hlen
          clear hmg hm1 hm2 HM HP3 HW3 HS3 HB3 HZ3 HO2 HB2 hlen
          go_loopw [8, 52] (fun ov i wx => ∃ (k : Nat) (out : List Otc), k ≤ d.length ∧ i = .int .i64 k ∧ Mg w g w3.heap.size (.slice (some ⟨g, 0, none⟩) d.length c2) l wx ov out ∧ out.length ≤ k ∧ (∀ p ∈ out, 0 ≤ p.wt ∧ p.wt ≤ 16 * k) ∧ Hid (mergeF out (l.drop k) = canon (wAt d)))
            (fun _ i _ => d.length - (intOf i).toNat)
          case atStart => exact ⟨0, [], Nat.zero_le _, rfl, HMG.out, Nat.le_refl _, by simp, HM1⟩
          case round =>
            obtain ⟨k, out, hk, rfl, hmg, hol, how, hmm⟩ := hrel
            obtain ⟨Ao, co, rfl⟩ := own_len hmg.own
            by_cases hlt : k < d.length
            · have hkl : k < l.length := by rw [← HLE.out]; exact hlt
              obtain ⟨b, o, hbo, hbg, y0, y1, y2⟩ := otc_at (show Sl 3 elOtc _ (fun b => b = g) (.slice (some ⟨g, 0, none⟩) d.length c2) l from hmg.so) hkl
              replace hbg := hbg.symm
              subst hbg
              obtain rfl : o = 0 := by simp at hbo; omega
              clear hbo
              have hwt := badN_no (HM2.out _ (List.getElem_mem hkl))
              have hmd := hmm.out
              rw [List.drop_eq_getElem_cons hkl] at hmd
              obtain ⟨⟨pr, pw, pt⟩, hp⟩ : ∃ p, p = l[k] := ⟨_, rfl⟩
              rw [← hp] at y0 y1 y2 hwt hmd
              obtain ⟨hr0, hr7, hw0, hw16⟩ := hwt
              dsimp only at y0 y1 y2 hw0 hw16
              rw [Nat.zero_add] at y0 y1 y2
              have hgw : g < wr.heap.size := by have := hmg.hg; have := hmg.hB; omega
              have hma := hmg.below (Below.alloc (Below.refl _ _) (Nat.le_refl _) (.cells #[.int .i64 pr, .bool pw, .int .i64 pt] 110))
              have HMA := Lib.hid hma
              have HOW := Lib.hid how
              have HOL := Lib.hid hol
              have HK1 := Lib.hid (show k < 1000 from by omega)
              by_cases ht : pt = 0
              · have hmd2 := hmd
                rw [merge_skip (by exact ht)] at hmd2
                have HMD := Lib.hid hmd2
                have et : (pt == 0) = true := by rw [ht]; rfl
                clear hmg hma how hmm hmd hmd2 hp hr0 hr7 hol ht
                go_wp2
                go_roundw
                case rel => exact ⟨k + 1, out, by omega, by go_num, HMA.out, by have := HOL.out; omega, fun p hx => by have := HOW.out p hx; push_cast; omega, HMD⟩
                case measure => simp [intOf]; omega
              · have et : (pt == 0) = false := by simpa using ht
                have HP := Lib.hid (show (⟨pr, pw, pt⟩ : Otc).wt ≠ 0 from ht)
                have hap := fun W' v' (h1 : OwnSl 3 elOtc 110 w3.heap.size W' v' (out ++ [⟨pr, pw, pt⟩])) W (h0 : Mg w g w3.heap.size (.slice (some ⟨g, 0, none⟩) d.length c2) l W (.slice Ao out.length co) out) o (h2 : (W.alloc o).grownBy W' (Value.slice Ao out.length co).ownBlock) => (h0.below (Below.alloc (Below.refl _ _) (Nat.le_refl _) o)).app h1 h2
                have HAP := Lib.hid hap
                have hbd : ∀ p ∈ out ++ [(⟨pr, pw, pt⟩ : Otc)], 0 ≤ p.wt ∧ p.wt ≤ 16 * ((k + 1 : Nat) : Int) := fun p hx => by
                  rcases List.mem_append.1 hx with hx | hx
                  · have := how p hx; push_cast; omega
                  · rw [List.mem_singleton.1 hx]; dsimp only; push_cast; omega
                have HBD := Lib.hid hbd
                rcases Nat.eq_zero_or_pos out.length with h0 | h0
                · have hout : out = [] := List.length_eq_zero_iff.1 h0
                  subst hout
                  rw [merge_first HP.out] at hmd
                  have HMD := Lib.hid hmd
                  have s1 : IntKind.i64.wrap (((List.length ([] : List Otc) : Nat) : Int) - 1) = -1 := by decide
                  clear hmg how hmm hmd hp hr0 hr7 hol hap hma h0 hbd HAP HOW
                  go_wp2
                  go_quiet (fail)
                  have hm4 := HMA.out.below (Below.drewN_ (Below.refl _ _) nq)
                  have hk4 : Blk ((wr.alloc (.cells #[.int .i64 pr, .bool pw, .int .i64 pt] 110)).drewN nq) wr.heap.size 110 #[.int .i64 pr, .bool pw, .int .i64 pt] := (Blk.new wr _ _).below (Below.drewN_ (Below.refl (wr.alloc (.cells #[.int .i64 pr, .bool pw, .int .i64 pt] 110)).heap.size _) nq) (by simp)
                  generalize (wr.alloc (.cells #[.int .i64 pr, .bool pw, .int .i64 pt] 110)).drewN nq = W4 at hm4 hk4 ⊢
                  have HM4 := Lib.hid hm4
                  have HK4 := Lib.hid hk4
                  clear hm4 hk4
                  obtain ⟨c0, c1, c2, _⟩ := Blk.three HK4.out
                  go_wp2_with (at_builtin; refine wpList_append_sl _ rfl (.tmp 83) (.tmp 85) _ rfl E_otc elOtc_good w3.heap.size _ [] rfl (HM4.out.own.alloc elOtc_good _) ⟨W4.heap.size, 0, none⟩ 1 [.int .i64 pr, .bool pw, .int .i64 pt] rfl ⟨pr, pw, pt⟩ rfl (cells_new _ _ _ _) (oneCells rfl) rfl (room1 HOL.out HK1.out).1 (room1 HOL.out HK1.out).2 (base1 HM4.out.hB _) ?_; intro v6 w6 hown6 hg6 hat6; have h6 := (HM4.out.below (Below.alloc (Below.refl _ _) (Nat.le_refl _) (.cells #[.int .i64 pr, .bool pw, .int .i64 pt] 110))).app hown6 hg6; have H6 := Lib.hid h6; clear hown6 hg6 hat6 h6)
                  go_roundw
                  case rel => exact ⟨k + 1, [] ++ [⟨pr, pw, pt⟩], by omega, by go_num, H6.out, by have := HOL.out; rw [List.length_append, List.length_singleton]; omega, HBD.out, HMD⟩
                  case measure => simp [intOf]; omega
                · obtain ⟨m, hm⟩ : ∃ m, out.length = m + 1 := ⟨out.length - 1, by omega⟩
                  have hmo : m < out.length := by omega
                  have hget : out[m]? = some out[m] := List.getElem?_eq_getElem hmo
                  have hqw := how _ (List.getElem_mem hmo)
                  have hma2 := HMA.out.below (Below.drew (Below.refl _ _))
                  obtain ⟨g2, hA2, _, hg2a, hg2b, p0, p1, p2, pf⟩ := hma2.out_at hmo
                  subst hA2
                  have hkd : Blk (wr.alloc (.cells #[.int .i64 pr, .bool pw, .int .i64 pt] 110)).drew wr.heap.size 110 #[.int .i64 pr, .bool pw, .int .i64 pt] := (Blk.new wr _ _).drew
                  have kord := fun W => ch_order out[m] ⟨pr, pw, pt⟩ W
                  have hnew := fun ho => merge_new (l := l.drop (k + 1)) hm hget HP.out ho
                  have hsame := fun ho => merge_same (l := l.drop (k + 1)) hm hget HP.out ho
                  have hput := fun W (h : Mg w g w3.heap.size (.slice (some ⟨g, 0, none⟩) d.length c2) l W (.slice (some ⟨g2, 0, none⟩) out.length co) out) x => h.put hmo x
                  have hset : ∀ x y : Int, 0 ≤ x → x ≤ 16 * ((k + 1 : Nat) : Int) → ∀ p ∈ out.set m { out[m] with wt := x }, 0 ≤ p.wt ∧ p.wt ≤ 16 * ((k + 1 : Nat) : Int) := fun x y h1 h2 p hx => by
                    rcases List.mem_or_eq_of_mem_set hx with hx | hx
                    · have := how p hx; push_cast; omega
                    · rw [hx]; exact ⟨h1, h2⟩
                  have hat := fun W (h : Mg w g w3.heap.size (.slice (some ⟨g, 0, none⟩) d.length c2) l W (.slice (some ⟨g2, 0, none⟩) out.length co) out) => h.at2 hmo
                  obtain ⟨⟨qr, qw, qt⟩, hq⟩ : ∃ q, q = out[m] := ⟨_, rfl⟩
                  rw [← hq] at p0 p1 p2 kord hnew hsame hput hqw hset hat
                  obtain ⟨u, hu⟩ : ∃ u, u = ordS ⟨qr, qw, qt⟩ ⟨pr, pw, pt⟩ := ⟨_, rfl⟩
                  rw [← hu] at kord hnew hsame
                  obtain ⟨hq0, hq1⟩ := hqw
                  dsimp only at p0 p1 p2 hq0 hq1 hput hsame hset hat
                  unfold outV at kord
                  dsimp only at kord
                  have KORD := Lib.hid kord
                  have HMA2 := Lib.hid hma2
                  have HKD := Lib.hid hkd
                  have HPUT := Lib.hid hput
                  have HSET := Lib.hid hset
                  have HAT := Lib.hid hat
                  obtain ⟨c0, c1, c2', _⟩ := Blk.three hkd
                  have s1 : IntKind.i64.wrap ((out.length : Int) - 1) = (m : Int) := by rw [IntWalk.i64_in _ (by omega)]; omega
                  have s4 : (m : Int) < (out.length : Int) := by omega
                  have hkr : wr.heap.size < (wr.alloc (.cells #[.int .i64 pr, .bool pw, .int .i64 pt] 110)).drew.heap.size := by simp
                  have HKR := Lib.hid hkr
                  have HMO := Lib.hid hmo
                  have tok3 : True := trivial
                  clear hma2 hkd kord hput hset hat hkr hget hq hmg how hmm hp hr0 hr7 hol hap hma h0 hbd hm HOW
                  by_cases h0 : u = 0
                  · rw [hsame h0] at hmd
                    have HMD := Lib.hid hmd
                    have eu : (u == 0) = true := by rw [h0]; rfl
                    clear hnew hsame hu h0 hmd pf hmo
                    go_wp2_with fail
                    go_region_held3 (fun w' => w'.cell? ⟨g2, m * 3, none⟩ = some (.int .i64 qr) ∧ w'.cell? ⟨g2, m * 3 + 1, none⟩ = some (.bool qw) ∧ w'.cell? ⟨g2, m * 3 + 2, none⟩ = some (.int .i64 qt) ∧ w'.cell? ⟨wr.heap.size, 0, none⟩ = some (.int .i64 pr) ∧ w'.cell? ⟨wr.heap.size, 1, none⟩ = some (.bool pw) ∧ w'.cell? ⟨wr.heap.size, 2, none⟩ = some (.int .i64 pt))
                      (first | exact ⟨p0, p1, p2, c0, c1, c2'⟩ | go_keep)
                      (first | (clear tok3; go_at_call 138; refine (KORD.out _).mono ?_; rintro e w5 ⟨rfl, hb5⟩; clear p0 p1 p2 c0 c1 c2'; have hm5 := HMA2.out.below hb5; obtain ⟨p0, p1, p2, pf⟩ := HAT.out _ hm5; obtain ⟨c0, c1, c2', _⟩ := Blk.three (HKD.out.below hb5 HKR.out); have HM5 := Lib.hid hm5; clear hm5 hb5))
                    go_wp2_with fail
                    go_region
                    go_wp2_with fail
                    go_roundw
                    case rel => exact ⟨k + 1, _, by omega, by go_num, (HPUT.out _ HM5.out _).below (Below.drew (Below.refl _ _)), by have := HOL.out; rw [List.length_set]; omega, HSET.out _ 0 (by omega) (by push_cast; omega), HMD⟩
                    case measure => simp [intOf]; omega
                  · rw [hnew h0] at hmd
                    have HMD := Lib.hid hmd
                    have eu : (u == 0) = false := by simpa using h0
                    clear hnew hsame hu h0 hmd pf hmo
                    go_wp2_with fail
                    go_region_held3 (fun w' => w'.cell? ⟨g2, m * 3, none⟩ = some (.int .i64 qr) ∧ w'.cell? ⟨g2, m * 3 + 1, none⟩ = some (.bool qw) ∧ w'.cell? ⟨g2, m * 3 + 2, none⟩ = some (.int .i64 qt) ∧ w'.cell? ⟨wr.heap.size, 0, none⟩ = some (.int .i64 pr) ∧ w'.cell? ⟨wr.heap.size, 1, none⟩ = some (.bool pw) ∧ w'.cell? ⟨wr.heap.size, 2, none⟩ = some (.int .i64 pt))
                      (first | exact ⟨p0, p1, p2, c0, c1, c2'⟩ | go_keep)
                      (first | (clear tok3; go_at_call 138; refine (KORD.out _).mono ?_; rintro e w5 ⟨rfl, hb5⟩; clear p0 p1 p2 c0 c1 c2'; have hm5 := HMA2.out.below hb5; obtain ⟨p0, p1, p2, pf⟩ := HAT.out _ hm5; obtain ⟨c0, c1, c2', _⟩ := Blk.three (HKD.out.below hb5 HKR.out); have HM4 := Lib.hid hm5; have HK4 := Lib.hid (HKD.out.below hb5 HKR.out); clear hm5 hb5 pf))
                    obtain ⟨c0, c1, c2, _⟩ := Blk.three HK4.out
                    go_wp2_with (at_builtin; refine wpList_append_sl _ rfl (.tmp 83) (.tmp 85) _ rfl E_otc elOtc_good w3.heap.size _ out rfl (HM4.out.own.alloc elOtc_good _) ⟨w5.heap.size, 0, none⟩ 1 [.int .i64 pr, .bool pw, .int .i64 pt] rfl ⟨pr, pw, pt⟩ rfl (cells_new _ _ _ _) (oneCells rfl) rfl (room1 HOL.out HK1.out).1 (room1 HOL.out HK1.out).2 (base1 HM4.out.hB _) ?_; intro v6 w6 hown6 hg6 hat6; have h6 := (HM4.out.below (Below.alloc (Below.refl _ _) (Nat.le_refl _) (.cells #[.int .i64 pr, .bool pw, .int .i64 pt] 110))).app hown6 hg6; have H6 := Lib.hid h6; clear hown6 hg6 hat6 h6)
                    go_roundw
                    case rel => exact ⟨k + 1, out ++ [⟨pr, pw, pt⟩], by omega, by go_num, H6.out, by have := HOL.out; rw [List.length_append, List.length_singleton]; omega, HBD.out, HMD⟩
                    case measure => simp [intOf]; omega
            · obtain rfl : k = d.length := by omega
              have hml := hmm.out
              rw [List.drop_of_length_le (by rw [HLE.out]; exact Nat.le_refl _), mergeF] at hml
              have HSL := Lib.hid (hmg.own.sl elOtc_good)
              have HML := Lib.hid hml
              have HBE := Lib.hid hmg.bel
              have HBB := Lib.hid (show w.heap.size ≤ w3.heap.size from by have := hmg.hg; omega)
              clear hmg how hmm hml hol
              go_wp2
              go_ret2
              rw [HZZ.out, ← HML.out]
              exact ⟨_, rfl, HSL.out.keep elOtc_good (Same.refl _ _) (fun b hx => ⟨by have := HBB.out; omega, hx.2⟩), HBE.out⟩
        · have hz2 := HZ.out
          rw [norm_sum HN.out hg2 (by rw [← hs2]; exact h16)] at hz2
          have e16 : (s != 16) = true := by simp [h16]
          have HZZ := Lib.hid hz2
          clear hb hss hgd hs2 hg2 hz2 h16
          go_wp2
          go_ret2
          exact otc_nil HB.out HZZ.out
end Go.Proofs.YtdlmmbfnmnglaaaGreatDoor

namespace Go.Proofs.YtdlmmbfnmnglaaaGreatDoor
open Go.RowKit

theorem boorJ (b : Bool) : b = true ∨ b = false := by cases b <;> simp
theorem canonF_snoc (f : Nat → Int) : ∀ m i, canonF f (m + 1) i = canonF f m i ++ (if 0 < f (i + m) then [otcOf (i + m) (f (i + m))] else [])
  | 0, i => by rw [canonF, canonF, canonF, List.append_nil, List.nil_append, Nat.add_zero]
  | m + 1, i => by
    have ih := canonF_snoc f m (i + 1)
    rw [canonF, ih, canonF, List.append_assoc, show i + 1 + m = i + (m + 1) from by omega]
/-- The distribution of the first n keys. -/
def canonP (f : Nat → Int) (n : Nat) : List Otc := canonF f n 0
theorem canonP_pos {f : Nat → Int} {n : Nat} (h : 0 < f n) : canonP f (n + 1) = canonP f n ++ [otcOf n (f n)] := by
  unfold canonP; rw [canonF_snoc, Nat.zero_add, if_pos h]
theorem canonP_no {f : Nat → Int} {n : Nat} (h : ¬ 0 < f n) : canonP f (n + 1) = canonP f n := by
  unfold canonP; rw [canonF_snoc, Nat.zero_add, if_neg h, List.append_nil]
theorem wAt_take {d : List Otc} {k : Nat} (h : k < d.length) (j : Nat) : wAt (d.take (k + 1)) j = wAt (d.take k) j + if keyO d[k] = j then d[k].wt else 0 := sumI_map_take (f := fun o : Otc => if keyO o = j then o.wt else 0) h
theorem key_hit {o : Otc} (h : 0 ≤ o.runs) (r j : Nat) (hj : j < 2) : (keyO o = 2 * r + j) ↔ (o.runs = (r : Int) ∧ o.wick = decide (j = 1)) := by
  unfold keyO
  constructor
  · intro hk
    cases hw : o.wick <;> rw [hw] at hk <;> simp at hk <;> refine ⟨by omega, ?_⟩
    · have : j = 0 := by omega
      subst this; rfl
    · have : j = 1 := by omega
      subst this; rfl
  · rintro ⟨h1, h2⟩
    rw [h2, h1]
    have : j = 0 ∨ j = 1 := by omega
    rcases this with rfl | rfl <;> simp
theorem otcOf_two (r j : Nat) (hj : j < 2) (x : Int) : otcOf (2 * r + j) x = ⟨(r : Int), decide (j = 1), x⟩ := by
  unfold otcOf
  have : j = 0 ∨ j = 1 := by omega
  rcases this with rfl | rfl
  · have h1 : (2 * r + 0) / 2 = r := by omega
    have h2 : (2 * r + 0) % 2 = 0 := by omega
    (try rw [h1, h2]) <;> rfl
  · have h1 : (2 * r + 1) / 2 = r := by omega
    have h2 : (2 * r + 1) % 2 = 1 := by omega
    (try rw [h1, h2]) <;> rfl
/-- While the reference gathers: the row of those that are out, and the one that is being weighed in block xb. -/
structure Rx (w W : World) (ov : Value) (out : List Otc) (bb xb : Nat) (r : Nat) (wk : Bool) (x : Int) : Prop where
  bel : Below w.heap.size w W
  own : OwnSl 3 elOtc 110 w.heap.size W ov out
  lt : ∀ b, ov.ownBlock = some b → b < xb
  xk : Blk W xb 110 #[.int .i64 (r : Int), .bool wk, .int .i64 x]
  bk : Blk W bb 4 #[.bool false, .bool true]
  hx : w.heap.size ≤ xb
  hb : bb ≠ xb
/-- The same between two weighings. -/
structure Ry (w W : World) (ov : Value) (out : List Otc) (bb : Nat) : Prop where
  bel : Below w.heap.size w W
  own : OwnSl 3 elOtc 110 w.heap.size W ov out
  bk : Blk W bb 4 #[.bool false, .bool true]
section
variable {w W W' : World} {ov : Value} {out : List Otc} {bb xb r : Nat} {wk : Bool} {x : Int}
theorem Rx.below (h : Rx w W ov out bb xb r wk x) (hb : Below W.heap.size W W') : Rx w W' ov out bb xb r wk x :=
  ⟨h.bel.trans (hb.mono h.bel.size), h.own.below elOtc_good hb, h.lt, h.xk.below hb h.xk.lt, h.bk.below hb h.bk.lt, h.hx, h.hb⟩
theorem Ry.below (h : Ry w W ov out bb) (hb : Below W.heap.size W W') : Ry w W' ov out bb :=
  ⟨h.bel.trans (hb.mono h.bel.size), h.own.below elOtc_good hb, h.bk.below hb h.bk.lt⟩
theorem Rx.put (h : Rx w W ov out bb xb r wk x) (y : Int) : Rx w (W.setCell ⟨xb, 2, none⟩ (.int .i64 y)) ov out bb xb r wk y := by
  have ho := (Only.refl xb W).setCell (p := ⟨xb, 2, none⟩) (.inl rfl) (.int .i64 y)
  refine ⟨h.bel.setCell h.hx _, h.own.grown elOtc_good ho fun b hb e => ?_, h.lt, h.xk.set_ 2 (.int .i64 y), h.bk.far h.hb _, h.hx, h.hb⟩
  have := h.lt b hb
  have := Option.some.inj e
  omega
theorem Ry.start (h : Ry w W ov out bb) (r : Nat) (wk : Bool) (x : Int) : Rx w (W.alloc (.cells #[.int .i64 (r : Int), .bool wk, .int .i64 x] 110)) ov out bb W.heap.size r wk x :=
  ⟨h.bel.alloc h.bel.size _, h.own.alloc elOtc_good _, fun b hb => (h.own.block b hb).2, Blk.new W _ _, h.bk.alloc _, h.bel.size, Nat.ne_of_lt h.bk.lt⟩
theorem Rx.y (h : Rx w W ov out bb xb r wk x) : Ry w W ov out bb := ⟨h.bel, h.own, h.bk⟩
theorem Ry.app {v' : Value} {o : Otc} (h : Ry w W ov out bb) (hbt : bb ≠ xb) (hown : OwnSl 3 elOtc 110 w.heap.size W' v' (out ++ [o])) (hg : W.grownBy W' ov.ownBlock) : Ry w W' v' (out ++ [o]) bb :=
  ⟨below_own h.bel h.own hg (Nat.le_refl _) h.bel.size, hown, h.bk.grown hg fun e => own_ne h.own h.bk (by decide) e⟩
end
set_option maxRecDepth 100000 in
set_option maxHeartbeats 4000000 in
theorem ref_Norm (d : List Otc) (v : Value) (w : World) (h : Sl 3 elOtc w (· < w.heap.size) v d) : Calls Tryz.prog 147 #[v] w (OtcPost w (normS d)) := by
  obtain ⟨z, hz⟩ : ∃ z, z = normS d := ⟨_, rfl⟩
  rw [← hz]
  obtain ⟨A, c, rfl, hc, hc2⟩ := h.shape
  by_cases h64 : 64 < d.length
  · rw [norm_long h64] at hz
    have e64 : (64 : Int) < (d.length : Int) := by omega
    have HZ := Lib.hid hz
    clear hz h h64
    go_enter Tryz.func147, Tryz.ntmps147
    go_wp2
    go_ret2
    exact otc_nil (Below.refl _ _) HZ.out
  · have e64 : (d.length : Int) ≤ 64 := by omega
    have HZ := Lib.hid hz
    have H := Lib.hid h
    have HN := Lib.hid h64
    clear hz h h64
    go_enter Tryz.func147, Tryz.ntmps147
    go_wp2
    go_loopw [4, 19] (fun sv i wr => ∃ (k : Nat) (s : Int), k ≤ d.length ∧ i = .int .i64 k ∧ sv = .int .i64 s ∧ 0 ≤ s ∧ s ≤ 16 * k ∧ Below w.heap.size w wr ∧ Hid (s = sumI ((d.take k).map (·.wt))) ∧ Hid (∀ o ∈ d.take k, badN o = false))
      (fun _ i _ => d.length - (intOf i).toNat)
    case atStart => exact ⟨0, 0, Nat.zero_le _, rfl, rfl, by omega, by omega, Below.refl _ _, Lib.hid rfl, Lib.hid (by simp)⟩
    case round =>
      obtain ⟨k, s, hk, rfl, rfl, hs0, hs1, hb, hss, hgd⟩ := hrel
      have HB := Lib.hid hb
      by_cases hlt : k < d.length
      · obtain ⟨b, o, rfl, hbl, y0', y1', y2'⟩ := otc_at H.out hlt
        have hst := sumI_map_take (f := fun o : Otc => o.wt) hlt
        rw [← hss.out] at hst
        have hgt := fun h1 => take_good hlt hgd.out h1
        have hbt := fun h1 => norm_bad HN.out (List.getElem_mem hlt) h1
        obtain ⟨⟨pr, pw, pt⟩, hp⟩ : ∃ p, p = d[k] := ⟨_, rfl⟩
        rw [← hp] at y0' y1' y2' hst hgt hbt
        have y0 := (hb.cell (p := ⟨b, o + k * 3, none⟩) hbl).trans y0'
        have y1 := (hb.cell (p := ⟨b, o + k * 3 + 1, none⟩) hbl).trans y1'
        have y2 := (hb.cell (p := ⟨b, o + k * 3 + 2, none⟩) hbl).trans y2'
        dsimp only at y0 y1 y2 hst
        rcases badN_ways ⟨pr, pw, pt⟩ with ⟨hB, hw⟩ | ⟨hB, e1, e2, e3, e4⟩
        · have hz2 : z = ([], 2) := by rw [HZ.out, hbt hB]
          have HZZ := Lib.hid hz2
          clear hb hss hgd hp hst hgt hbt y0' y1' y2' hz2 hB
          rcases hw with e1 | ⟨e1, e2⟩ | ⟨e1, e2, e3⟩ | ⟨e1, e2, e3, e4⟩
          all_goals
            dsimp only at *
            go_wp2
            go_ret2
            exact otc_nil (Below.alloc HB.out HB.out.size _) HZZ.out
        · have hok := badN_no hB
          have hw0 := hok.w0
          have hw16 := hok.w16
          dsimp only at e1 e2 e3 e4 hw0 hw16
          have HST := Lib.hid hst.symm
          have HGT := Lib.hid (hgt hB)
          clear hb hss hgd hp hst hgt hbt y0' y1' y2' hB hok
          go_wp2
          go_roundw
          case rel => exact ⟨k + 1, _, by omega, by go_num, rfl, by omega, by push_cast; omega, Below.alloc HB.out HB.out.size _, HST, HGT⟩
          case measure => simp [intOf]; omega
      · obtain rfl : k = d.length := by omega
        have hs2 := hss.out
        have hg2 := hgd.out
        rw [List.take_of_length_le (Nat.le_refl _)] at hs2 hg2
        by_cases h16 : s = 16
        · have hz2 := HZ.out
          rw [norm_fine HN.out hg2 (by rw [← hs2]; exact h16)] at hz2
          have HZZ : Hid (z = (canonP (wAt d) 16, 0)) := Lib.hid hz2
          have HG := Lib.hid hg2
          subst h16
          clear hb hss hgd hs2 hg2 hz2 hs0 hs1 HZ
          go_wp2
          go_loopw [7, 8] (fun ov rv wx => ∃ (r : Nat), r ≤ 8 ∧ rv = .int .i64 r ∧ Below w.heap.size w wx ∧ OwnSl 3 elOtc 110 w.heap.size wx ov (canonP (wAt d) (2 * r)))
            (fun _ rv _ => 8 - (intOf rv).toNat)
          case atStart => exact ⟨0, by omega, rfl, HB.out, OwnSl.nil _⟩
          case round =>
            obtain ⟨r, hr, rfl, hbr, hor⟩ := hrel
            obtain ⟨Ao, co, rfl⟩ := own_len hor
            by_cases hr8 : r < 8
            · have hry : Ry w (wr.alloc (.cells #[.bool false, .bool true] 4)) (.slice Ao (canonP (wAt d) (2 * r)).length co) (canonP (wAt d) (2 * r)) wr.heap.size := ⟨hbr.alloc hbr.size _, hor.alloc elOtc_good _, Blk.new wr _ _⟩
              have HRY := Lib.hid hry
              have er : (r : Int) ≤ 7 := by omega
              clear hbr hor hry
              obtain ⟨w7, rfl⟩ : ∃ w7 : World, w7 = wr := ⟨_, rfl⟩
              go_wp2
              go_loopw [7, 54] (fun ov j wx => ∃ (k : Nat), k ≤ 2 ∧ j = .int .i64 k ∧ Ry w wx ov (canonP (wAt d) (2 * r + k)) w7.heap.size)
                (fun _ j _ => 2 - (intOf j).toNat)
              case atStart => exact ⟨0, by omega, rfl, HRY.out⟩
              case round =>
                clear HRY
                obtain ⟨j, hj, rfl, hry⟩ := hrel
                obtain ⟨Ao, co, rfl⟩ := own_len hry.own
                obtain ⟨out, hout⟩ : ∃ out, out = canonP (wAt d) (2 * r + j) := ⟨_, rfl⟩
                rw [← hout] at hry ⊢
                by_cases hj2 : j < 2
                · obtain ⟨wk, hwk⟩ : ∃ wk, wk = decide (j = 1) := ⟨_, rfl⟩
                  have yb : wr.cell? ⟨w7.heap.size, j, none⟩ = some (.bool wk) := by
                    rw [hry.bk.cell j, hwk]
                    have : j = 0 ∨ j = 1 := by omega
                    rcases this with rfl | rfl <;> rfl
                  have hb7 := hry.bk.lt
                  have hrx := hry.start r wk 0
                  have HRX := Lib.hid hrx
                  have hkey : ∀ (o : Otc), badN o = false → ((keyO o = 2 * r + j) ↔ (o.runs = (r : Int) ∧ o.wick = wk)) := fun o ho => by rw [hwk]; exact key_hit (badN_no ho).r0 r j hj2
                  have hot : ∀ x, otcOf (2 * r + j) x = ⟨(r : Int), wk, x⟩ := fun x => by rw [hwk]; exact otcOf_two r j hj2 x
                  have HKEY := Lib.hid hkey
                  have HOT := Lib.hid hot
                  have HOUT := Lib.hid hout
                  have HJ2 := Lib.hid hj2
                  have ej : (j : Int) < 2 := by omega
                  clear hry hrx hkey hot hout hwk hj
                  obtain ⟨w8, rfl⟩ : ∃ w8 : World, w8 = wr := ⟨_, rfl⟩
                  go_wp2
                  go_loopw [63] (fun i wx => ∃ (k : Nat) (x : Int), k ≤ d.length ∧ i = .int .i64 k ∧ 0 ≤ x ∧ x ≤ 16 * k ∧ Rx w wx (.slice Ao out.length co) out w7.heap.size w8.heap.size r wk x ∧ Hid (x = wAt (d.take k) (2 * r + j)))
                    (fun i _ => d.length - (intOf i).toNat)
                  case atStart => exact ⟨0, 0, Nat.zero_le _, rfl, by omega, by omega, HRX.out, Lib.hid rfl⟩
                  case round =>
                    obtain ⟨k, x, hk, rfl, hx0, hx1, hrx, hxx⟩ := hrel
                    have HRR := Lib.hid hrx
                    have hxl := hrx.xk.lt
                    obtain ⟨c0, c1, c2', cf0, cf1, cf2⟩ := Blk.three hrx.xk
                    by_cases hlt : k < d.length
                    · obtain ⟨b, o, rfl, hbl, y0', y1', y2'⟩ := otc_at H.out hlt
                      have hgd := HG.out _ (List.getElem_mem hlt)
                      have hst := wAt_take hlt (2 * r + j)
                      rw [← hxx.out] at hst
                      have hke := HKEY.out _ hgd
                      have hok := badN_no hgd
                      obtain ⟨⟨pr, pw, pt⟩, hp⟩ : ∃ p, p = d[k] := ⟨_, rfl⟩
                      rw [← hp] at y0' y1' y2' hst hke hok
                      have y0 := (hrx.bel.cell (p := ⟨b, o + k * 3, none⟩) hbl).trans y0'
                      have y1 := (hrx.bel.cell (p := ⟨b, o + k * 3 + 1, none⟩) hbl).trans y1'
                      have y2 := (hrx.bel.cell (p := ⟨b, o + k * 3 + 2, none⟩) hbl).trans y2'
                      have hw0 := hok.w0
                      have hw16 := hok.w16
                      dsimp only at y0 y1 y2 hw0 hw16 hst hke
                      have hal := hrx.below (Below.alloc (Below.refl _ _) (Nat.le_refl _) (.cells #[.int .i64 pr, .bool pw, .int .i64 pt] 110))
                      have HAL := Lib.hid hal
                      have hne1 : ¬ (wr.heap.size = w8.heap.size) := by omega
                      have hne2 : ¬ (w8.heap.size = wr.heap.size) := by omega
                      by_cases hit : pr = (r : Int) ∧ pw = wk
                      · rw [if_pos (hke.2 hit)] at hst
                        obtain ⟨h1, h2⟩ := hit
                        have e1 : (pr == (r : Int)) = true := by simp [h1]
                        have e2 : (pw == wk) = true := by simp [h2]
                        have HST := Lib.hid hst.symm
                        clear hrx hxx hgd hst hke hok hp y0' y1' y2' hal h1 h2
                        go_wp2
                        go_roundw
                        case rel => exact ⟨k + 1, x + pt, by omega, by go_num, by omega, by push_cast; omega, (HRR.out.put (x + pt)).below (Below.alloc (Below.refl _ _) (Nat.le_refl _) _), HST⟩
                        case measure => simp [intOf]; omega
                      · rw [if_neg (fun h => hit (hke.1 h)), Int.add_zero] at hst
                        have HST := Lib.hid hst.symm
                        rcases boorJ (pr == (r : Int)) with e1 | e1
                        · have e2 : (pw == wk) = false := by
                            rcases boorJ (pw == wk) with h | h
                            · exact absurd ⟨by simpa using e1, by simpa using h⟩ hit
                            · exact h
                          clear hrx hxx hgd hst hke hok hp y0' y1' y2' hal hit HRR
                          go_wp2
                          go_roundw
                          case rel => exact ⟨k + 1, x, by omega, by go_num, by omega, by push_cast; omega, HAL.out, HST⟩
                          case measure => simp [intOf]; omega
                        · clear hrx hxx hgd hst hke hok hp y0' y1' y2' hal hit HRR
                          go_wp2
                          go_roundw
                          case rel => exact ⟨k + 1, x, by omega, by go_num, by omega, by push_cast; omega, HAL.out, HST⟩
                          case measure => simp [intOf]; omega
                    · obtain rfl : k = d.length := by omega
                      have hx2 := hxx.out
                      rw [List.take_of_length_le (Nat.le_refl _)] at hx2
                      by_cases hxp : 0 < x
                      · have e1 : decide (0 < x) = true := decide_eq_true hxp
                        have hcp := canonP_pos (f := wAt d) (n := 2 * r + j) (by rw [← hx2]; exact hxp)
                        rw [← hx2, HOT.out, ← HOUT.out] at hcp
                        have HCP := Lib.hid hcp
                        have hln : out.length ≤ 16 := by rw [HOUT.out]; have := canonF_len (f := wAt d) (2 * r + j) 0; unfold canonP; omega
                        have HLN := Lib.hid hln
                        clear hrx hxx hx2 hcp hln hxp HKEY
                        go_wp2_with (at_builtin; refine wpList_append_sl _ rfl (.tmp 87) (.tmp 89) _ rfl E_otc elOtc_good w.heap.size _ out rfl (HRR.out.own.alloc elOtc_good _) ⟨wr.heap.size, 0, none⟩ 1 [.int .i64 (r : Int), .bool wk, .int .i64 x] rfl ⟨(r : Int), wk, x⟩ rfl (cells_new _ _ _ _) (oneCells rfl) rfl (room1 HLN.out (by omega)).1 (room1 HLN.out (by omega)).2 (base1 HRR.out.bel.size _) ?_; intro v6 w6 hown6 hg6 hat6; have h6 := (HRR.out.y.below (Below.alloc (Below.refl _ _) (Nat.le_refl _) (.cells #[.int .i64 (r : Int), .bool wk, .int .i64 x] 110))).app HRR.out.hb hown6 hg6; have H6 := Lib.hid h6; clear hown6 hg6 hat6 h6)
                        go_roundw
                        case rel => exact ⟨j + 1, HJ2.out, by go_num, by rw [← Nat.add_assoc, HCP.out]; exact H6.out⟩
                        case measure => have := HJ2.out; simp [intOf]; omega
                      · have e1 : decide (0 < x) = false := decide_eq_false hxp
                        have hcp := canonP_no (f := wAt d) (n := 2 * r + j) (by rw [← hx2]; exact hxp)
                        rw [← HOUT.out] at hcp
                        have HCP := Lib.hid hcp
                        clear hrx hxx hx2 hcp hxp HKEY
                        go_wp2
                        go_roundw
                        case rel => exact ⟨j + 1, HJ2.out, by go_num, by rw [← Nat.add_assoc, HCP.out]; exact HRR.out.y⟩
                        case measure => have := HJ2.out; simp [intOf]; omega
                · obtain rfl : j = 2 := by omega
                  clear hj2
                  have HO := Lib.hid hry.own
                  have HBE := Lib.hid hry.bel
                  have HOUT := Lib.hid hout
                  clear hry hout
                  go_wp2
                  go_roundw
                  case rel => exact ⟨r + 1, by omega, by go_num, HBE.out, by rw [show 2 * (r + 1) = 2 * r + 2 from by omega, ← HOUT.out]; exact HO.out⟩
                  case measure => simp [intOf]; omega
            · obtain rfl : r = 8 := by omega
              have HO := Lib.hid (hor.sl elOtc_good)
              have HBE := Lib.hid hbr
              clear hor hbr
              go_wp2
              go_ret2
              rw [HZZ.out]
              exact ⟨_, rfl, HO.out.keep elOtc_good (Same.refl _ _) (fun b hx => hx), HBE.out⟩
        · have hz2 := HZ.out
          rw [norm_sum HN.out hg2 (by rw [← hs2]; exact h16)] at hz2
          have e16 : (s != 16) = true := by simp [h16]
          have HZZ := Lib.hid hz2
          clear hb hss hgd hs2 hg2 hz2 h16
          go_wp2
          go_ret2
          exact otc_nil HB.out HZZ.out
end Go.Proofs.YtdlmmbfnmnglaaaGreatDoor

namespace Go.Proofs.YtdlmmbfnmnglaaaGreatDoor
open Go.RowKit

/-- The sixteen cells of the weights f: those without a wicket by runs, then those with one. -/
def wCells (f : Nat → Int) : Array Value := #[.int .i64 (f 0), .int .i64 (f 2), .int .i64 (f 4), .int .i64 (f 6), .int .i64 (f 8), .int .i64 (f 10), .int .i64 (f 12), .int .i64 (f 14), .int .i64 (f 1), .int .i64 (f 3), .int .i64 (f 5), .int .i64 (f 7), .int .i64 (f 9), .int .i64 (f 11), .int .i64 (f 13), .int .i64 (f 15)]
def cellK (j : Nat) : Nat := j / 2 + 8 * (j % 2)
theorem wCells_upd (f : Nat → Int) (j : Nat) (x : Int) (hj : j < 16) : wCells (upd f j x) = (wCells f).setIfInBounds (cellK j) (.int .i64 (f j + x)) := by
  have : j = 0 ∨ j = 1 ∨ j = 2 ∨ j = 3 ∨ j = 4 ∨ j = 5 ∨ j = 6 ∨ j = 7 ∨ j = 8 ∨ j = 9 ∨ j = 10 ∨ j = 11 ∨ j = 12 ∨ j = 13 ∨ j = 14 ∨ j = 15 := by omega
  rcases this with rfl | rfl | rfl | rfl | rfl | rfl | rfl | rfl | rfl | rfl | rfl | rfl | rfl | rfl | rfl | rfl <;> rfl
theorem wCells_at (f : Nat → Int) (j : Nat) (hj : j < 16) : (wCells f)[cellK j]? = some (.int .i64 (f j)) := by
  have : j = 0 ∨ j = 1 ∨ j = 2 ∨ j = 3 ∨ j = 4 ∨ j = 5 ∨ j = 6 ∨ j = 7 ∨ j = 8 ∨ j = 9 ∨ j = 10 ∨ j = 11 ∨ j = 12 ∨ j = 13 ∨ j = 14 ∨ j = 15 := by omega
  rcases this with rfl | rfl | rfl | rfl | rfl | rfl | rfl | rfl | rfl | rfl | rfl | rfl | rfl | rfl | rfl | rfl <;> rfl
theorem plain_at (f : Nat → Int) (r : Nat) (hr : r ≤ 7) : (wCells f)[r]? = some (.int .i64 (f (2 * r))) := by
  have := wCells_at f (2 * r) (by omega)
  rwa [show cellK (2 * r) = r from by unfold cellK; omega] at this
theorem wick_at (f : Nat → Int) (r : Nat) (hr : r ≤ 7) : (wCells f)[8 + r]? = some (.int .i64 (f (2 * r + 1))) := by
  have := wCells_at f (2 * r + 1) (by omega)
  rwa [show cellK (2 * r + 1) = 8 + r from by unfold cellK; omega] at this
theorem plain_upd (f : Nat → Int) (r : Nat) (x : Int) (hr : r ≤ 7) : wCells (upd f (2 * r) x) = (wCells f).setIfInBounds r (.int .i64 (f (2 * r) + x)) := by
  have := wCells_upd f (2 * r) x (by omega)
  rwa [show cellK (2 * r) = r from by unfold cellK; omega] at this
theorem wick_upd (f : Nat → Int) (r : Nat) (x : Int) (hr : r ≤ 7) : wCells (upd f (2 * r + 1) x) = (wCells f).setIfInBounds (8 + r) (.int .i64 (f (2 * r + 1) + x)) := by
  have := wCells_upd f (2 * r + 1) x (by omega)
  rwa [show cellK (2 * r + 1) = 8 + r from by unfold cellK; omega] at this
/-- The weights lie in block g. -/
def WAt (w : World) (g : Nat) (f : Nat → Int) : Prop := Blk w g 188 (wCells f)
theorem WAt.plain {w : World} {g : Nat} {f : Nat → Int} (h : WAt w g f) (r : Nat) (hr : r ≤ 7) : w.cell? ⟨g, r, none⟩ = some (.int .i64 (f (2 * r))) ∧ w.frozen? ⟨g, r, none⟩ = false := ⟨(Blk.cell h r).trans (plain_at f r hr), Blk.frozen h r⟩
theorem WAt.wick {w : World} {g : Nat} {f : Nat → Int} (h : WAt w g f) (r : Nat) (hr : r ≤ 7) : w.cell? ⟨g, 8 + r, none⟩ = some (.int .i64 (f (2 * r + 1))) ∧ w.frozen? ⟨g, 8 + r, none⟩ = false := ⟨(Blk.cell h (8 + r)).trans (wick_at f r hr), Blk.frozen h (8 + r)⟩
theorem WAt.setPlain {w : World} {g : Nat} {f : Nat → Int} (h : WAt w g f) (r : Nat) (x : Int) (hr : r ≤ 7) : WAt (w.setCell ⟨g, r, none⟩ (.int .i64 (f (2 * r) + x))) g (upd f (2 * r) x) := by
  unfold WAt; rw [plain_upd f r x hr]; exact Blk.set_ h r _
theorem WAt.setWick {w : World} {g : Nat} {f : Nat → Int} (h : WAt w g f) (r : Nat) (x : Int) (hr : r ≤ 7) : WAt (w.setCell ⟨g, 8 + r, none⟩ (.int .i64 (f (2 * r + 1) + x))) g (upd f (2 * r + 1) x) := by
  unfold WAt; rw [wick_upd f r x hr]; exact Blk.set_ h (8 + r) _
theorem WAt.drew {w : World} {g : Nat} {f : Nat → Int} (h : WAt w g f) : WAt w.drew g f := Blk.drew h
theorem hard_none {f : Nat → Int} {n : Nat} (h : ∀ s, 0 < s → s ≤ 7 → f (2 * s) = 0) : hardF n f = f ∧ topF f 7 = 0 := by
  have := topF_none (f := f) (m := 7) fun s h1 h2 => h s h1 h2
  exact ⟨by unfold hardF; rw [if_pos this], this⟩
theorem hard_some {f : Nat → Int} {n r : Nat} (h0 : f (2 * r) ≠ 0) (h1 : ∀ s, r < s → s ≤ 7 → f (2 * s) = 0) (h2 : r ≤ 7) (h3 : 1 ≤ r) : hardF n f = upd (upd f (2 * r) (-1)) (n % 2) 1 ∧ topF f 7 = r := by
  have := topF_at h0 h1 h2 h3
  exact ⟨by unfold hardF; rw [this, if_neg (by omega)], this⟩
set_option maxRecDepth 100000 in
set_option maxHeartbeats 2000000 in
theorem w_harder (f : Nat → Int) (n g : Nat) (w : World) (h : WAt w g f) (hf : Fit f) (hn : n ≤ 100) :
    Calls Tryz.prog 148 #[.pointer (some ⟨g, 0, none⟩), .int .i64 n] w fun e w' => e = .returned (.bool (decide (topF f 7 ≠ 0))) ∧ WAt w' g (hardF n f) ∧ Only g w w' := by
  have H := Lib.hid h
  have HF := Lib.hid hf
  obtain ⟨z, hz⟩ : ∃ z, z = decide (topF f 7 ≠ 0) := ⟨_, rfl⟩
  obtain ⟨f9, hf9⟩ : ∃ f9, f9 = hardF n f := ⟨_, rfl⟩
  rw [← hz, ← hf9]
  have HZ := Lib.hid hz
  have HF9 := Lib.hid hf9
  clear h hf hz hf9
  go_enter Tryz.func148, Tryz.ntmps148
  go_wp2
  go_loopw [5] (fun i wr => ∃ r : Nat, r ≤ 7 ∧ i = .int .i64 r ∧ (∃ q, wr = w.drewN q) ∧ Hid (∀ s, r < s → s ≤ 7 → f (2 * s) = 0)) (fun i _ => (intOf i).toNat)
  case atStart => exact ⟨7, Nat.le_refl _, rfl, ⟨0, rfl⟩, Lib.hid fun s h1 h2 => by omega⟩
  case round =>
    obtain ⟨r, hr, rfl, ⟨q, rfl⟩, hz⟩ := hrel
    by_cases h1 : 1 ≤ r
    · obtain ⟨y0, yf⟩ := H.out.plain r hr
      have e1 : (1 : Int) ≤ (r : Int) := by omega
      have e8 : (r : Int) < 8 := by omega
      by_cases h0 : f (2 * r) = 0
      · have e0 : (f (2 * r) == 0) = true := by rw [h0]; rfl
        have hz2 : ∀ s, r - 1 < s → s ≤ 7 → f (2 * s) = 0 := fun s h2 h3 => by
          by_cases hs : s = r
          · rw [hs]; exact h0
          · exact hz.out s (by omega) h3
        have HZ2 := Lib.hid hz2
        clear hz hz2 h0
        go_wp2
        go_roundw
        case rel => exact ⟨r - 1, by omega, by first | go_num | (congr 1; omega), ⟨_, rfl⟩, HZ2⟩
        case measure => simp [intOf]; omega
      · have e0 : (f (2 * r) == 0) = false := by simpa using h0
        have hb0 := HF.out.pos (2 * r) (by omega)
        have hb1 := HF.out.le (j := 2 * r) (by omega)
        obtain ⟨hh, ht⟩ := hard_some (n := n) h0 hz.out hr h1
        have et : decide (topF f 7 ≠ 0) = true := decide_eq_true (by omega)
        have HR := Lib.hid (show z = true ∧ f9 = upd (upd f (2 * r) (-1)) (n % 2) 1 from ⟨by rw [HZ.out, et], by rw [HF9.out, hh]⟩)
        have h00 : upd f (2 * r) (-1) 0 = f 0 := by unfold upd; rw [if_neg (by omega)]
        have h01 : upd f (2 * r) (-1) 1 = f 1 := by unfold upd; rw [if_neg (by omega)]
        have hc0 := HF.out.pos 0 (by omega)
        have hc1 := HF.out.le (j := 0) (by omega)
        have hd0 := HF.out.pos 1 (by omega)
        have hd1 := HF.out.le (j := 1) (by omega)
        have HF1 := Lib.hid (show (∀ W, WAt W g (upd f (2 * r) (-1)) → W.cell? ⟨g, 0, none⟩ = some (.int .i64 (f 0)) ∧ W.frozen? ⟨g, 0, none⟩ = false ∧ W.cell? ⟨g, 8, none⟩ = some (.int .i64 (f 1)) ∧ W.frozen? ⟨g, 8, none⟩ = false ∧ WAt (W.setCell ⟨g, 0, none⟩ (.int .i64 (f 0 + 1))) g (upd (upd f (2 * r) (-1)) 0 1) ∧ WAt (W.setCell ⟨g, 8, none⟩ (.int .i64 (f 1 + 1))) g (upd (upd f (2 * r) (-1)) 1 1)) from fun W hW => by
          have p := hW.plain 0 (by omega)
          have q := hW.wick 0 (by omega)
          have s := hW.setPlain 0 1 (by omega)
          have t := hW.setWick 0 1 (by omega)
          rw [show 2 * 0 = 0 from rfl, h00] at p s
          rw [show 2 * 0 + 1 = 1 from rfl, h01] at q t
          exact ⟨p.1, p.2, q.1, q.2, s, t⟩)
        clear hz h0 hh ht et h00 h01
        have hone : ∀ m : Nat, ∃ W1, W1 = (w.drewN m).setCell ⟨g, r, none⟩ (.int .i64 (f (2 * r) - 1)) ∧ WAt W1 g (upd f (2 * r) (-1)) ∧ Only g w W1 := fun m => ⟨_, rfl, WAt.setPlain (w := w.drewN m) H.out r (-1) hr, ((Only.refl g w).drewN m).setCell (p := ⟨g, r, none⟩) (.inl rfl) _⟩
        rcases Nat.mod_two_eq_zero_or_one n with hm | hm
        · have em : ((n : Int) % 2 == 0) = true := by rw [beq_iff_eq]; omega
          have HM := Lib.hid hm
          obtain ⟨W1, hW1, hw1, ho1⟩ := hone (q + 1)
          have HW := Lib.hid hW1
          have HW1 := Lib.hid hw1
          have HO1 := Lib.hid ho1
          clear hm hone hW1 hw1 ho1
          go_wp2
          go_region
          go_wp2_with fail
          rw [← HW.out]
          obtain ⟨p0, pf, q0, qf, _, _⟩ := HF1.out W1 HW1.out
          go_region
          go_wp2
          go_ret
          exact ⟨ret_b HR.out.1.symm, by rw [HR.out.2, HM.out]; exact (HF1.out W1 HW1.out).2.2.2.2.1.drew, (HO1.out.setCell (p := ⟨g, 0, none⟩) (.inl rfl) _).drew⟩
        · have em : ((n : Int) % 2 == 0) = false := by rw [beq_eq_false_iff_ne]; omega
          have HM := Lib.hid hm
          obtain ⟨W1, hW1, hw1, ho1⟩ := hone (q + 1)
          have HW := Lib.hid hW1
          have HW1 := Lib.hid hw1
          have HO1 := Lib.hid ho1
          clear hm hone hW1 hw1 ho1
          go_wp2
          go_region
          go_wp2_with fail
          rw [← HW.out]
          obtain ⟨p0, pf, q0, qf, _, _⟩ := HF1.out W1 HW1.out
          go_region
          go_wp2
          go_ret
          exact ⟨ret_b HR.out.1.symm, by rw [HR.out.2, HM.out]; exact (HF1.out W1 HW1.out).2.2.2.2.2.drew, (HO1.out.setCell (p := ⟨g, 8, none⟩) (.inl rfl) _).drew⟩
    · obtain rfl : r = 0 := by omega
      obtain ⟨hh, ht⟩ := hard_none (n := n) hz.out
      have HR := Lib.hid (show z = false ∧ f9 = f from ⟨by rw [HZ.out, ht]; rfl, by rw [HF9.out, hh]⟩)
      clear hz hh ht h1
      go_wp2
      go_ret
      exact ⟨ret_b HR.out.1.symm, by rw [HR.out.2]; exact Blk.below H.out (Below.drewN_ (Below.refl w.heap.size w) _) (Blk.lt H.out), (Only.refl g w).drewN _⟩
set_option maxRecDepth 100000 in
set_option maxHeartbeats 2000000 in
theorem w_easier (f : Nat → Int) (g : Nat) (w : World) (h : WAt w g f) (hf : Fit f) :
    Calls Tryz.prog 149 #[.pointer (some ⟨g, 0, none⟩)] w fun e w' => e = .returned (.bool (decide (0 < f 1 ∨ 0 < f 0))) ∧ WAt w' g (easyF f) ∧ Only g w w' := by
  have H := Lib.hid h
  have HF := Lib.hid hf
  obtain ⟨z, hz⟩ : ∃ z, z = decide (0 < f 1 ∨ 0 < f 0) := ⟨_, rfl⟩
  obtain ⟨f9, hf9⟩ : ∃ f9, f9 = easyF f := ⟨_, rfl⟩
  rw [← hz, ← hf9]
  have HZ := Lib.hid hz
  have HF9 := Lib.hid hf9
  clear h hf hz hf9
  obtain ⟨c8, cf8⟩ := H.out.wick 0 (by omega)
  rw [show 2 * 0 + 1 = 1 from rfl, Nat.add_zero] at c8
  rw [Nat.add_zero] at cf8
  obtain ⟨d0, df0⟩ := H.out.plain 0 (by omega)
  rw [show 2 * 0 = 0 from rfl] at d0
  go_enter Tryz.func149, Tryz.ntmps149
  by_cases h1 : 0 < f 1
  · have e1 : decide (0 < f 1) = true := decide_eq_true h1
    have hb0 := HF.out.pos 1 (by omega)
    have hb1 := HF.out.le (j := 1) (by omega)
    have hb2 := HF.out.pos 2 (by omega)
    have hb3 := HF.out.le (j := 2) (by omega)
    have HR := Lib.hid (show z = true ∧ f9 = upd (upd f 1 (-1)) 2 1 from ⟨by rw [HZ.out]; exact decide_eq_true (by omega), by rw [HF9.out]; unfold easyF; rw [if_pos h1]⟩)
    have hw1 : WAt (w.setCell ⟨g, 8, none⟩ (.int .i64 (f 1 - 1))).drew g (upd f 1 (-1)) := (WAt.setWick H.out 0 (-1) (by omega)).drew
    have ho1 : Only g w (w.setCell ⟨g, 8, none⟩ (.int .i64 (f 1 - 1))).drew := ((Only.refl g w).setCell (p := ⟨g, 8, none⟩) (.inl rfl) _).drew
    have h2 : upd f 1 (-1) 2 = f 2 := by unfold upd; rw [if_neg (by omega)]
    have hp := hw1.plain 1 (by omega)
    have hs := hw1.setPlain 1 1 (by omega)
    rw [show 2 * 1 = 2 from rfl, h2] at hp hs
    obtain ⟨W1, hW1⟩ : ∃ W1, W1 = (w.setCell ⟨g, 8, none⟩ (.int .i64 (f 1 - 1))).drew := ⟨_, rfl⟩
    rw [← hW1] at hp hs ho1
    obtain ⟨p0, pf0⟩ := hp
    have HS := Lib.hid hs
    have HO1 := Lib.hid ho1
    have HW := Lib.hid hW1
    clear hw1 ho1 h2 hs hW1
    go_wp2
    go_region
    go_wp2_with fail
    rw [← HW.out]
    go_region
    go_wp2
    go_ret
    exact ⟨ret_b HR.out.1.symm, by rw [HR.out.2]; exact HS.out.drew, (HO1.out.setCell (p := ⟨g, 1, none⟩) (.inl rfl) _).drew⟩
  · have e1 : decide (0 < f 1) = false := decide_eq_false h1
    by_cases h0 : 0 < f 0
    · have e0 : decide (0 < f 0) = true := decide_eq_true h0
      have hb0 := HF.out.pos 0 (by omega)
      have hb1 := HF.out.le (j := 0) (by omega)
      have hb2 := HF.out.pos 2 (by omega)
      have hb3 := HF.out.le (j := 2) (by omega)
      have HR := Lib.hid (show z = true ∧ f9 = upd (upd f 0 (-1)) 2 1 from ⟨by rw [HZ.out]; exact decide_eq_true (by omega), by rw [HF9.out]; unfold easyF; rw [if_neg h1, if_pos h0]⟩)
      have hw1 : WAt (w.setCell ⟨g, 0, none⟩ (.int .i64 (f 0 - 1))).drew g (upd f 0 (-1)) := (WAt.setPlain H.out 0 (-1) (by omega)).drew
      have ho1 : Only g w (w.setCell ⟨g, 0, none⟩ (.int .i64 (f 0 - 1))).drew := ((Only.refl g w).setCell (p := ⟨g, 0, none⟩) (.inl rfl) _).drew
      have h2 : upd f 0 (-1) 2 = f 2 := by unfold upd; rw [if_neg (by omega)]
      have hp := hw1.plain 1 (by omega)
      have hs := hw1.setPlain 1 1 (by omega)
      rw [show 2 * 1 = 2 from rfl, h2] at hp hs
      obtain ⟨W1, hW1⟩ : ∃ W1, W1 = (w.setCell ⟨g, 0, none⟩ (.int .i64 (f 0 - 1))).drew := ⟨_, rfl⟩
      rw [← hW1] at hp hs ho1
      obtain ⟨p0, pf0⟩ := hp
      have HS := Lib.hid hs
      have HO1 := Lib.hid ho1
      have HW := Lib.hid hW1
      clear hw1 ho1 h2 hs hW1
      go_wp2
      go_region
      go_wp2_with fail
      rw [← HW.out]
      go_region
      go_wp2
      go_ret
      exact ⟨ret_b HR.out.1.symm, by rw [HR.out.2]; exact HS.out.drew, (HO1.out.setCell (p := ⟨g, 1, none⟩) (.inl rfl) _).drew⟩
    · have e0 : decide (0 < f 0) = false := decide_eq_false h0
      have HR := Lib.hid (show z = false ∧ f9 = f from ⟨by rw [HZ.out]; exact decide_eq_false (by omega), by rw [HF9.out]; unfold easyF; rw [if_neg h1, if_neg h0]⟩)
      clear h1 h0
      go_wp2
      go_ret
      exact ⟨ret_b HR.out.1.symm, by rw [HR.out.2]; exact H.out, Only.refl g w⟩
end Go.Proofs.YtdlmmbfnmnglaaaGreatDoor

namespace Go.Proofs.YtdlmmbfnmnglaaaGreatDoor

/-- No two outcomes with one key, all runs in range, no weight below 0. -/
structure Uni (l : List Otc) : Prop where
  ne : l.Pairwise fun a b => keyO a ≠ keyO b
  each : ∀ o ∈ l, 0 ≤ o.runs ∧ o.runs ≤ 7 ∧ 0 ≤ o.wt
theorem wAt_set {l : List Otc} {i : Nat} (hi : i < l.length) (a : Otc) (j : Nat) : wAt (l.set i a) j = wAt l j - (if keyO l[i] = j then l[i].wt else 0) + (if keyO a = j then a.wt else 0) := by
  induction l generalizing i with
  | nil => simp at hi
  | cons o l ih =>
    cases i with
    | zero => rw [List.set_cons_zero, wAt_cons, wAt_cons, List.getElem_cons_zero]; omega
    | succ i => rw [List.set_cons_succ, wAt_cons, wAt_cons, List.getElem_cons_succ, ih (by simpa using hi)]; omega
theorem wAt_uni {l : List Otc} (h : Uni l) {i : Nat} (hi : i < l.length) : wAt l (keyO l[i]) = l[i].wt := by
  have hp := List.pairwise_iff_getElem.1 h.ne
  have e : wAt (l.set i { l[i] with wt := 0 }) (keyO l[i]) = 0 := by
    have : ∀ o ∈ l.set i { l[i] with wt := 0 }, (if keyO o = keyO l[i] then o.wt else 0) = 0 := fun o ho => by
      obtain ⟨k, hk, rfl⟩ := List.mem_iff_getElem.1 ho
      rw [List.length_set] at hk
      by_cases hki : k = i
      · subst hki; rw [List.getElem_set_self]; simp
      · rw [List.getElem_set_ne (fun e => hki e.symm)]
        have : keyO l[k] ≠ keyO l[i] := by
          rcases Nat.lt_or_gt_of_ne hki with h1 | h1
          · exact hp k i hk hi h1
          · exact fun e => hp i k hi hk h1 e.symm
        rw [if_neg this]
    unfold wAt
    have h0 : (l.set i { l[i] with wt := 0 }).map (fun o => if keyO o = keyO l[i] then o.wt else 0) = (l.set i { l[i] with wt := 0 }).map (fun _ => 0) := List.map_congr_left this
    rw [h0]
    generalize l.set i { l[i] with wt := 0 } = m
    induction m with
    | nil => rfl
    | cons a m ih => rw [List.map_cons, sumI_cons, ih]; rfl
  rw [wAt_set hi, if_pos rfl] at e
  rw [show keyO { l[i] with wt := 0 } = keyO l[i] from rfl, if_pos rfl] at e
  dsimp only at e
  omega
theorem wAt_zero_of {l : List Otc} {j : Nat} (h : wAt l j ≠ 0) : ∃ i, ∃ hi : i < l.length, keyO l[i] = j := by
  rcases Classical.em (∃ i, ∃ hi : i < l.length, keyO l[i] = j) with h1 | h1
  · exact h1
  · exact absurd (wAt_none fun o ho e => by obtain ⟨i, hi, rfl⟩ := List.mem_iff_getElem.1 ho; exact h1 ⟨i, hi, e⟩) h
theorem Uni.set {l : List Otc} (h : Uni l) {i : Nat} (hi : i < l.length) (x : Int) (hx : 0 ≤ x) : Uni (l.set i { l[i] with wt := x }) := by
  refine ⟨?_, fun o ho => ?_⟩
  · have : (l.set i { l[i] with wt := x }).map keyO = l.map keyO := by
      rw [List.map_set, show keyO { l[i] with wt := x } = keyO l[i] from rfl]
      apply List.ext_getElem
      · simp
      · intro k h1 h2
        rw [List.getElem_set]
        split
        · rename_i e; subst e; simp
        · rfl
    have h2 := List.pairwise_map.2 h.ne
    rw [← this] at h2
    exact List.pairwise_map.1 h2
  · rcases List.mem_or_eq_of_mem_set ho with h1 | h1
    · exact h.each o h1
    · rw [h1]
      have := h.each _ (List.getElem_mem hi)
      exact ⟨this.1, this.2.1, hx⟩
theorem uni_of {d : List Otc} (h : checkD d = 0) : Uni d := by
  have hn := checkD_neat h
  exact ⟨hn.asc.imp fun h => Nat.ne_of_lt h, fun o ho => by have := hn.each o ho; omega⟩
/-- The index of the outcome without a wicket that has the most runs, of the first k. -/
def mostK (d : List Otc) : Nat → Int
  | 0 => -1
  | k + 1 => match d[k]? with
    | none => mostK d k
    | some o => if o.wick = false ∧ 0 < o.runs ∧ 0 < o.wt ∧ (mostK d k < 0 ∨ ((d[(mostK d k).toNat]?).map (·.runs)).getD 0 < o.runs) then (k : Int) else mostK d k
def candM (o : Otc) : Prop := o.wick = false ∧ 0 < o.runs ∧ 0 < o.wt
theorem mostK_at (d : List Otc) : ∀ k, k ≤ d.length → (mostK d k = -1 ∧ ∀ i (hi : i < k) (hd : i < d.length), ¬ candM d[i]) ∨ ∃ i : Nat, ∃ hi : i < d.length, i < k ∧ mostK d k = i ∧ candM d[i] ∧ ∀ s (hs : s < k) (hd : s < d.length), candM d[s] → d[s].runs ≤ d[i].runs
  | 0, _ => .inl ⟨rfl, fun i hi => by omega⟩
  | k + 1, hk => by
    have hkd : k < d.length := by omega
    have hm : mostK d (k + 1) = if d[k].wick = false ∧ 0 < d[k].runs ∧ 0 < d[k].wt ∧ (mostK d k < 0 ∨ ((d[(mostK d k).toNat]?).map (·.runs)).getD 0 < d[k].runs) then (k : Int) else mostK d k := by
      rw [mostK, List.getElem?_eq_getElem hkd]
    rcases mostK_at d k (by omega) with ⟨h1, h2⟩ | ⟨i, hi, hik, h1, h2, h3⟩
    · by_cases hc : candM d[k]
      · refine .inr ⟨k, hkd, by omega, ?_, hc, fun s hs hd hcs => ?_⟩
        · rw [hm, if_pos ⟨hc.1, hc.2.1, hc.2.2, .inl (by omega)⟩]
        · by_cases hsk : s = k
          · subst hsk; exact Int.le_refl _
          · exact absurd hcs (h2 s (by omega) hd)
      · refine .inl ⟨?_, fun s hs hd => ?_⟩
        · rw [hm, if_neg (fun h => hc ⟨h.1, h.2.1, h.2.2.1⟩), h1]
        · by_cases hsk : s = k
          · subst hsk; exact hc
          · exact h2 s (by omega) hd
    · have e : ((d[(mostK d k).toNat]?).map (·.runs)).getD 0 = d[i].runs := by
        rw [h1, Int.toNat_natCast, List.getElem?_eq_getElem hi]; rfl
      rw [e] at hm
      by_cases hc : candM d[k] ∧ d[i].runs < d[k].runs
      · refine .inr ⟨k, hkd, by omega, ?_, hc.1, fun s hs hd hcs => ?_⟩
        · rw [hm, if_pos ⟨hc.1.1, hc.1.2.1, hc.1.2.2, .inr hc.2⟩]
        · by_cases hsk : s = k
          · subst hsk; exact Int.le_refl _
          · have := h3 s (by omega) hd hcs; omega
      · refine .inr ⟨i, hi, by omega, ?_, h2, fun s hs hd hcs => ?_⟩
        · rw [hm, if_neg (fun h => hc ⟨⟨h.1, h.2.1, h.2.2.1⟩, by rcases h.2.2.2 with h4 | h4 <;> omega⟩), h1]
        · by_cases hsk : s = k
          · subst hsk
            rcases Classical.em (d[i].runs < d[s].runs) with h4 | h4
            · exact absurd ⟨hcs, h4⟩ hc
            · omega
          · exact h3 s (by omega) hd hcs
/-- The first outcome of 0 runs, with or without a wicket, that has a weight. -/
def dotF (w : Bool) : List Otc → Nat → Int
  | [], _ => -1
  | o :: l, i => if o.runs = 0 ∧ o.wick = w ∧ 0 < o.wt then (i : Int) else dotF w l (i + 1)
def dotS (d : List Otc) (w : Bool) : Int := dotF w d 0
theorem dotF_at (w : Bool) : ∀ (l : List Otc) (i : Nat), (dotF w l i = -1 ∧ ∀ o ∈ l, ¬ (o.runs = 0 ∧ o.wick = w ∧ 0 < o.wt)) ∨ ∃ k : Nat, ∃ hk : k < l.length, dotF w l i = ((i + k : Nat) : Int) ∧ l[k].runs = 0 ∧ l[k].wick = w ∧ 0 < l[k].wt
  | [], i => .inl ⟨rfl, by simp⟩
  | o :: l, i => by
    rw [dotF]
    by_cases h : o.runs = 0 ∧ o.wick = w ∧ 0 < o.wt
    · rw [if_pos h]; exact .inr ⟨0, by simp, by simp, h⟩
    · rw [if_neg h]
      rcases dotF_at w l (i + 1) with ⟨h1, h2⟩ | ⟨k, hk, h1, h2⟩
      · exact .inl ⟨h1, fun x hx => by
          rcases List.mem_cons.1 hx with rfl | hx
          · exact h
          · exact h2 x hx⟩
      · exact .inr ⟨k + 1, by simpa using hk, by rw [h1]; congr 1; omega, h2⟩
/-- The place of an outcome with these runs, with or without a wicket; the length where there is none. -/
def placeO (r : Int) (w : Bool) : List Otc → Nat
  | [] => 0
  | o :: l => if o.runs = r ∧ o.wick = w then 0 else placeO r w l + 1
theorem placeO_le (r : Int) (w : Bool) : ∀ l : List Otc, placeO r w l ≤ l.length
  | [] => Nat.le_refl _
  | o :: l => by
    rw [placeO]; split
    · omega
    · have := placeO_le r w l; simp; omega
theorem placeO_lt (r : Int) (w : Bool) : ∀ (l : List Otc) (h : placeO r w l < l.length), l[placeO r w l].runs = r ∧ l[placeO r w l].wick = w
  | [], h => by simp [placeO] at h
  | o :: l, h => by
    by_cases ho : o.runs = r ∧ o.wick = w
    · have e : placeO r w (o :: l) = 0 := by rw [placeO, if_pos ho]
      simp only [e, List.getElem_cons_zero]; exact ho
    · have e : placeO r w (o :: l) = placeO r w l + 1 := by rw [placeO, if_neg ho]
      have h' : placeO r w l < l.length := by rw [e] at h; simpa using h
      simp only [e, List.getElem_cons_succ]
      exact placeO_lt r w l h'
theorem placeO_before (r : Int) (w : Bool) : ∀ (l : List Otc) (i : Nat) (h : i < l.length), i < placeO r w l → ¬ (l[i].runs = r ∧ l[i].wick = w)
  | o :: l, i, h, hi => by
    rw [placeO] at hi
    by_cases ho : o.runs = r ∧ o.wick = w
    · rw [if_pos ho] at hi; omega
    · rw [if_neg ho] at hi
      cases i with
      | zero => rw [List.getElem_cons_zero]; exact ho
      | succ i => rw [List.getElem_cons_succ]; exact placeO_before r w l i (by simpa using h) (by omega)
def takeL (d : List Otc) (i : Nat) : List Otc := match d[i]? with
  | none => d
  | some o => d.set i { o with wt := o.wt - 1 }
def giveL (out : List Otc) (r : Int) (w : Bool) : List Otc := match out[placeO r w out]? with
  | some o => out.set (placeO r w out) { o with wt := o.wt + 1 }
  | none => out ++ [⟨r, w, 1⟩]
/-- A unit moved from the i-th outcome to the runs r. -/
def moveL (d : List Otc) (i : Nat) (r : Int) (w : Bool) : List Otc := giveL (takeL d i) r w
theorem takeL_at {d : List Otc} {i : Nat} (h : i < d.length) : takeL d i = d.set i { d[i] with wt := d[i].wt - 1 } := by unfold takeL; rw [List.getElem?_eq_getElem h]
theorem giveL_at {d : List Otc} {r : Int} {w : Bool} (h : placeO r w d < d.length) : giveL d r w = d.set (placeO r w d) { d[placeO r w d] with wt := d[placeO r w d].wt + 1 } := by unfold giveL; rw [List.getElem?_eq_getElem h]
theorem giveL_new {d : List Otc} {r : Int} {w : Bool} (h : ¬ placeO r w d < d.length) : giveL d r w = d ++ [⟨r, w, 1⟩] := by unfold giveL; rw [List.getElem?_eq_none (by omega)]
def keyR (r : Int) (w : Bool) : Nat := keyO ⟨r, w, 0⟩
theorem giveL_law {d : List Otc} (h : Uni d) {r : Int} {w : Bool} (hr : 0 ≤ r ∧ r ≤ 7) : Uni (giveL d r w) ∧ (∀ j, wAt (giveL d r w) j = upd (wAt d) (keyR r w) 1 j) ∧ (giveL d r w).length ≤ d.length + 1 := by
  by_cases hp : placeO r w d < d.length
  · obtain ⟨h1, h2⟩ := placeO_lt r w d hp
    have h0 := h.each _ (List.getElem_mem hp)
    have hk : keyO d[placeO r w d] = keyR r w := (key_eq h0.1 hr.1).2 ⟨h1, h2⟩
    rw [giveL_at hp]
    refine ⟨h.set hp _ (by omega), fun j => ?_, by simp⟩
    rw [wAt_set hp, show keyO { d[placeO r w d] with wt := d[placeO r w d].wt + 1 } = keyO d[placeO r w d] from rfl, hk, upd]
    by_cases hj : j = keyR r w
    · rw [if_pos hj.symm, if_pos hj.symm, if_pos hj]; simp only; omega
    · rw [if_neg (fun e => hj e.symm), if_neg (fun e => hj e.symm), if_neg hj]; omega
  · rw [giveL_new hp]
    have hle := placeO_le r w d
    refine ⟨⟨List.pairwise_append.2 ⟨h.ne, List.pairwise_singleton _ _, fun a ha b hb => ?_⟩, fun o ho => ?_⟩, fun j => ?_, by simp⟩
    · rw [List.mem_singleton.1 hb]
      obtain ⟨i, hi, rfl⟩ := List.mem_iff_getElem.1 ha
      intro e
      have h0 := h.each _ (List.getElem_mem hi)
      exact placeO_before r w d i hi (by omega) ((key_eq (b := ⟨r, w, 1⟩) h0.1 hr.1).1 e)
    · rcases List.mem_append.1 ho with ho | ho
      · exact h.each o ho
      · rw [List.mem_singleton.1 ho]; exact ⟨hr.1, hr.2, by simp⟩
    · rw [wAt_app, wAt_cons, wAt_nil, show keyO ⟨r, w, 1⟩ = keyR r w from rfl, upd]
      by_cases hj : j = keyR r w
      · rw [if_pos hj.symm, if_pos hj]; simp only; omega
      · rw [if_neg (fun e => hj e.symm), if_neg hj]; omega
theorem takeL_law {d : List Otc} (h : Uni d) {i : Nat} (hi : i < d.length) (hw : 0 < d[i].wt) : Uni (takeL d i) ∧ (∀ j, wAt (takeL d i) j = upd (wAt d) (keyO d[i]) (-1) j) ∧ (takeL d i).length = d.length := by
  rw [takeL_at hi]
  refine ⟨h.set hi _ (by omega), fun j => ?_, by simp⟩
  rw [wAt_set hi, show keyO { d[i] with wt := d[i].wt - 1 } = keyO d[i] from rfl, upd]
  by_cases hj : j = keyO d[i]
  · rw [if_pos hj.symm, if_pos hj.symm, if_pos hj]; simp only; omega
  · rw [if_neg (fun e => hj e.symm), if_neg (fun e => hj e.symm), if_neg hj]; omega
theorem moveL_law {d : List Otc} (h : Uni d) {i : Nat} (hi : i < d.length) (hw : 0 < d[i].wt) {r : Int} {w : Bool} (hr : 0 ≤ r ∧ r ≤ 7) :
    Uni (moveL d i r w) ∧ (∀ j, wAt (moveL d i r w) j = upd (upd (wAt d) (keyO d[i]) (-1)) (keyR r w) 1 j) ∧ (moveL d i r w).length ≤ d.length + 1 := by
  obtain ⟨h1, h2, h3⟩ := takeL_law h hi hw
  obtain ⟨h4, h5, h6⟩ := giveL_law h1 (r := r) (w := w) hr
  refine ⟨h4, fun j => ?_, by unfold moveL; omega⟩
  unfold moveL
  rw [h5, upd, upd, h2]
def mostS (d : List Otc) : Int := mostK d d.length
/-- The reference's unit that makes a ball harder, easier. -/
def hardL (k : Nat) (d : List Otc) : List Otc := if 0 ≤ mostS d then moveL d (mostS d).toNat 0 (decide (k % 2 = 1)) else d
def easyI (d : List Otc) : Int := if dotS d true < 0 then dotS d false else dotS d true
def easyL (d : List Otc) : List Otc := if 0 ≤ easyI d then moveL d (easyI d).toNat 1 false else d
theorem key_plain {o : Otc} (h : 0 ≤ o.runs) (hw : o.wick = false) : keyO o = 2 * o.runs.toNat := by unfold keyO; rw [hw]; simp
theorem hardL_law {d : List Otc} (h : Uni d) (k : Nat) : Uni (hardL k d) ∧ wAt (hardL k d) = hardF k (wAt d) ∧ (hardL k d).length ≤ d.length + 1 := by
  unfold hardL mostS
  have nn := fun j => wAt_nonneg (fun o ho => (h.each o ho).2.2) (l := d) j
  rcases mostK_at d d.length (Nat.le_refl _) with ⟨h1, h2⟩ | ⟨i, hi, _, h1, h2, h3⟩
  · rw [h1, if_neg (by omega)]
    refine ⟨h, ?_, by omega⟩
    have ht : topF (wAt d) 7 = 0 := topF_none fun s hs1 hs7 => by
      rcases Classical.em (wAt d (2 * s) = 0) with h0 | h0
      · exact h0
      · obtain ⟨i, hi, hk⟩ := wAt_zero_of h0
        have he := h.each _ (List.getElem_mem hi)
        have hw := wAt_uni h hi
        rw [hk] at hw
        have hr := key_runs he.1
        rw [hk] at hr
        refine absurd ⟨?_, ?_, ?_⟩ (h2 i hi hi)
        · rw [hr.2]; simp
        · rw [hr.1]; omega
        · have := nn (2 * s); omega
    rw [hardF, if_pos ht]
  · rw [h1, if_pos (by omega), Int.toNat_natCast]
    obtain ⟨g1, g2, g3⟩ := moveL_law h hi h2.2.2 (r := 0) (w := decide (k % 2 = 1)) (by omega)
    have he := h.each _ (List.getElem_mem hi)
    have hkey := key_plain he.1 h2.1
    have ht : topF (wAt d) 7 = d[i].runs.toNat := topF_at (by
        rw [← hkey, wAt_uni h hi]; have := h2.2.2; omega) (fun s hs1 hs7 => by
        rcases Classical.em (wAt d (2 * s) = 0) with h0 | h0
        · exact h0
        · obtain ⟨i', hi', hk'⟩ := wAt_zero_of h0
          have he' := h.each _ (List.getElem_mem hi')
          have hw' := wAt_uni h hi'
          rw [hk'] at hw'
          have hr' := key_runs he'.1
          rw [hk'] at hr'
          have := h3 i' hi' hi' ⟨by rw [hr'.2]; simp, by rw [hr'.1]; omega, by have := nn (2 * s); omega⟩
          rw [hr'.1] at this
          omega) (by omega) (by have := h2.2.1; omega)
    refine ⟨g1, ?_, g3⟩
    rw [funext g2, hardF, if_neg (by rw [ht]; have := h2.2.1; omega), ht, hkey]
    congr 1
    unfold keyR keyO
    by_cases hk2 : k % 2 = 1
    · simp [hk2]
    · simp [hk2]; omega
theorem easyL_law {d : List Otc} (h : Uni d) : Uni (easyL d) ∧ wAt (easyL d) = easyF (wAt d) ∧ (easyL d).length ≤ d.length + 1 := by
  have nn := fun j => wAt_nonneg (fun o ho => (h.each o ho).2.2) (l := d) j
  have none : ∀ w : Bool, (∀ o ∈ d, ¬ (o.runs = 0 ∧ o.wick = w ∧ 0 < o.wt)) → wAt d (keyR 0 w) = 0 := fun w hno => by
    rcases Classical.em (wAt d (keyR 0 w) = 0) with h0 | h0
    · exact h0
    · obtain ⟨i, hi, hk⟩ := wAt_zero_of h0
      have he := h.each _ (List.getElem_mem hi)
      have hw := wAt_uni h hi
      rw [hk] at hw
      have := (key_eq (b := ⟨0, w, 0⟩) he.1 (by simp)).1 hk
      exact absurd ⟨this.1, this.2, by have := nn (keyR 0 w); omega⟩ (hno _ (List.getElem_mem hi))
  have k1 : keyR 0 true = 1 := rfl
  have k0 : keyR 0 false = 0 := rfl
  have hit : ∀ (i : Nat) (hi : i < d.length) (w : Bool), d[i].runs = 0 → d[i].wick = w → 0 < d[i].wt → keyO d[i] = keyR 0 w ∧ 0 < wAt d (keyR 0 w) := fun i hi w a b c => by
    have he := h.each _ (List.getElem_mem hi)
    have e : keyO d[i] = keyR 0 w := (key_eq (b := ⟨0, w, 0⟩) he.1 (by simp)).2 ⟨a, b⟩
    have := wAt_uni h hi
    rw [e] at this
    exact ⟨e, by omega⟩
  rcases dotF_at true d 0 with ⟨h1, h2⟩ | ⟨i, hi, h1, ha, hb, hc⟩
  · have z1 := none true h2
    rw [k1] at z1
    have hE : easyI d = dotF false d 0 := by unfold easyI dotS; rw [if_pos (by omega)]
    unfold easyL
    rw [hE]
    rcases dotF_at false d 0 with ⟨h3, h4⟩ | ⟨i, hi, h3, ha, hb, hc⟩
    · have z0 := none false h4
      rw [k0] at z0
      rw [h3, if_neg (by omega)]
      exact ⟨h, by rw [easyF, if_neg (by omega), if_neg (by omega)], by omega⟩
    · obtain ⟨e1, e2⟩ := hit i hi false ha hb hc
      rw [h3, if_pos (by omega), Nat.zero_add, Int.toNat_natCast]
      obtain ⟨g1, g2, g3⟩ := moveL_law h hi hc (r := 1) (w := false) (by omega)
      rw [k0] at e1 e2
      exact ⟨g1, by rw [funext g2, easyF, if_neg (by omega), if_pos e2, e1]; rfl, g3⟩
  · have hE : easyI d = dotF true d 0 := by unfold easyI dotS; rw [if_neg (by omega)]
    unfold easyL
    rw [hE]
    obtain ⟨e1, e2⟩ := hit i hi true ha hb hc
    rw [h1, if_pos (by omega), Nat.zero_add, Int.toNat_natCast]
    obtain ⟨g1, g2, g3⟩ := moveL_law h hi hc (r := 1) (w := false) (by omega)
    rw [k1] at e1 e2
    exact ⟨g1, by rw [funext g2, easyF, if_pos e2, e1]; rfl, g3⟩
def hardLK (d : List Otc) : Nat → List Otc
  | 0 => d
  | n + 1 => hardL n (hardLK d n)
def easyLK (d : List Otc) : Nat → List Otc
  | 0 => d
  | n + 1 => easyL (easyLK d n)
theorem hardLK_law {d : List Otc} (h : Uni d) : ∀ n, Uni (hardLK d n) ∧ wAt (hardLK d n) = hardK (wAt d) n ∧ (hardLK d n).length ≤ d.length + n
  | 0 => ⟨h, rfl, by simp [hardLK]⟩
  | n + 1 => by
    obtain ⟨h1, h2, h3⟩ := hardLK_law h n
    obtain ⟨g1, g2, g3⟩ := hardL_law h1 n
    exact ⟨g1, by rw [hardLK, g2, h2]; rfl, by rw [hardLK]; omega⟩
theorem easyLK_law {d : List Otc} (h : Uni d) : ∀ n, Uni (easyLK d n) ∧ wAt (easyLK d n) = easyK (wAt d) n ∧ (easyLK d n).length ≤ d.length + n
  | 0 => ⟨h, rfl, by simp [easyLK]⟩
  | n + 1 => by
    obtain ⟨h1, h2, h3⟩ := easyLK_law h n
    obtain ⟨g1, g2, g3⟩ := easyL_law h1
    exact ⟨g1, by rw [easyLK, g2, h2]; rfl, by rw [easyLK]; omega⟩
theorem Uni.small {l : List Otc} (h : Uni l) (hs : sumK (wAt l) 16 0 = 16) : ∀ o ∈ l, OkN o := fun o ho => by
  have he := h.each o ho
  obtain ⟨i, hi, rfl⟩ := List.mem_iff_getElem.1 ho
  refine ⟨he.1, he.2.1, he.2.2, ?_⟩
  have hk : keyO l[i] < 16 := by unfold keyO; split <;> omega
  have h1 := (sumK_pos 16 0 fun j _ _ => wAt_nonneg (fun o ho => (h.each o ho).2.2) j).2 (keyO l[i]) (by omega) (by omega)
  rw [wAt_uni h hi, hs] at h1
  exact h1
/-- The list that the reference hands to Norm. -/
def shiftL (d : List Otc) (n : Int) : List Otc := easyLK (hardLK d n.toNat) (-n).toNat
theorem shiftL_norm {d : List Otc} (h : checkD d = 0) {n : Int} (h0 : -12 ≤ n) (h1 : n ≤ 12) : normS (shiftL d n) = shiftS d n := by
  have hu := uni_of h
  have hf := fit_of h
  have hd := (checkD_ok h).len
  obtain ⟨a1, a2, a3⟩ := hardLK_law hu n.toNat
  obtain ⟨b1, b2, b3⟩ := easyLK_law a1 (-n).toNat
  have e : wAt (shiftL d n) = moveW (wAt d) n := by
    unfold shiftL moveW
    rw [b2, a2]
    by_cases hn : 0 ≤ n
    · rw [if_pos hn, show (-n).toNat = 0 from by omega]; rfl
    · rw [if_neg hn, show n.toNat = 0 from by omega]; rfl
  have hs : sumK (wAt (shiftL d n)) 16 0 = 16 := by rw [e]; exact (hf.move n).sum
  have hu2 : Uni (shiftL d n) := b1
  rw [shift_ok h h0 h1, normS_good (by unfold shiftL; omega) (hu2.small hs) (by rw [← sumK_wAt _ fun o ho => ⟨(hu2.each o ho).1, (hu2.each o ho).2.1⟩]; exact hs), e]
end Go.Proofs.YtdlmmbfnmnglaaaGreatDoor

namespace Go.Proofs.YtdlmmbfnmnglaaaGreatDoor

theorem wAt_one (o : Otc) (j : Nat) : wAt [o] j = if keyO o = j then o.wt else 0 := by rw [wAt_cons, wAt_nil, Int.add_zero]
theorem take_upd {d : List Otc} (hn : Neat d) {k : Nat} (hk : k < d.length) : wAt (d.take (k + 1)) = upd (wAt (d.take k)) (keyO d[k]) d[k].wt ∧ wAt (d.take k) (keyO d[k]) = 0 := by
  have e : d.take (k + 1) = d.take k ++ [d[k]] := by rw [List.take_add_one, List.getElem?_eq_getElem hk]; rfl
  constructor
  · funext j
    rw [e, wAt_app, wAt_one]
    unfold upd
    by_cases h : j = keyO d[k]
    · rw [if_pos h, if_pos h.symm]
    · rw [if_neg h, if_neg fun x => h x.symm, Int.add_zero]
  · refine wAt_none fun o ho => ?_
    obtain ⟨i, hi, rfl⟩ := List.mem_iff_getElem.1 ho
    rw [List.getElem_take]
    have := List.pairwise_iff_getElem.1 hn.asc i k (by rw [List.length_take] at hi; omega) hk (by rw [List.length_take] at hi; omega)
    omega
/-- The first 2m outcomes in the order of their keys. -/
def allF (f : Nat → Int) : Nat → List Otc
  | 0 => []
  | m + 1 => allF f m ++ [⟨(m : Int), false, f (2 * m)⟩, ⟨(m : Int), true, f (2 * m + 1)⟩]
theorem allF_len (f : Nat → Int) : ∀ m, (allF f m).length = 2 * m
  | 0 => rfl
  | m + 1 => by rw [allF, List.length_append, allF_len f m]; rfl
theorem allF_wAt (f : Nat → Int) : ∀ m j, wAt (allF f m) j = if j < 2 * m then f j else 0
  | 0, j => by rw [if_neg (by omega)]; rfl
  | m + 1, j => by
    rw [allF, wAt_app, allF_wAt f m j, wAt_cons, wAt_one]
    have e1 : keyO ⟨(m : Int), false, f (2 * m)⟩ = 2 * m := by unfold keyO; simp
    have e2 : keyO ⟨(m : Int), true, f (2 * m + 1)⟩ = 2 * m + 1 := by unfold keyO; simp
    rw [e1, e2]
    by_cases h1 : j < 2 * m
    · rw [if_pos h1, if_neg (by omega), if_neg (by omega), if_pos (by omega)]; omega
    · rw [if_neg h1]
      by_cases h2 : j = 2 * m
      · subst h2; rw [if_pos rfl, if_neg (by omega), if_pos (by omega)]; dsimp only; omega
      · rw [if_neg (fun e => h2 e.symm)]
        by_cases h3 : j = 2 * m + 1
        · subst h3; rw [if_pos rfl, if_pos (by omega)]; dsimp only; omega
        · rw [if_neg (fun e => h3 e.symm), if_neg (by omega)]; omega
theorem allF_each {f : Nat → Int} (h : Fit f) : ∀ m, m ≤ 8 → ∀ o ∈ allF f m, OkN o
  | 0, _, o, ho => by cases ho
  | m + 1, hm, o, ho => by
    rw [allF, List.mem_append] at ho
    rcases ho with ho | ho
    · exact allF_each h m (by omega) o ho
    · have a1 := h.pos (2 * m) (by omega)
      have a2 := h.pos (2 * m + 1) (by omega)
      have b1 := h.le (j := 2 * m) (by omega)
      have b2 := h.le (j := 2 * m + 1) (by omega)
      simp only [List.mem_cons, List.not_mem_nil, or_false] at ho
      rcases ho with rfl | rfl
      · exact ⟨by show (0 : Int) ≤ m; omega, by show (m : Int) ≤ 7; omega, a1, b1⟩
      · exact ⟨by show (0 : Int) ≤ m; omega, by show (m : Int) ≤ 7; omega, a2, b2⟩
theorem normS_all {f : Nat → Int} (h : Fit f) : normS (allF f 8) = (canon f, 0) := by
  have he := allF_each h 8 (Nat.le_refl _)
  have hw : ∀ j, j < 16 → wAt (allF f 8) j = f j := fun j hj => by rw [allF_wAt, if_pos (by omega)]
  have hs : sumI ((allF f 8).map (·.wt)) = 16 := by
    rw [← sumK_wAt (allF f 8) fun o ho => ⟨(he o ho).r0, (he o ho).r7⟩, sumK_congr (g := f) 16 0 fun j _ h2 => hw j (by omega)]; exact h.sum
  unfold normS
  rw [if_neg (by rw [allF_len]; omega), if_neg, if_neg (by omega), canon_congr hw]
  intro hb
  obtain ⟨o, hx, hb⟩ := List.any_eq_true.1 hb
  rw [okN_good (he o hx)] at hb; cases hb
theorem move_two (f : Nat → Int) (n : Int) : easyK (hardK f n.toNat) (-n).toNat = moveW f n := by
  unfold moveW
  by_cases h : 0 ≤ n
  · rw [if_pos h, show (-n).toNat = 0 from by omega]; rfl
  · rw [if_neg h, show n.toNat = 0 from by omega]; rfl
theorem hard_same {f : Nat → Int} {n k : Nat} (h : topF (hardK f k) 7 = 0) (hk : k ≤ n) : hardK f n = hardK f k := by
  obtain ⟨m, rfl⟩ : ∃ m, n = k + m := ⟨n - k, by omega⟩
  exact hardK_stop h m
theorem easy_same {f : Nat → Int} {n k : Nat} (h : ¬ (0 < easyK f k 1 ∨ 0 < easyK f k 0)) (hk : k ≤ n) : easyK f n = easyK f k := by
  obtain ⟨m, rfl⟩ : ∃ m, n = k + m := ⟨n - k, by omega⟩
  exact easyK_stop (fun x => h (.inl x)) (fun x => h (.inr x)) m
theorem hard_stays {n : Nat} {f : Nat → Int} (h : topF f 7 = 0) : hardF n f = f := by unfold hardF; rw [if_pos h]
theorem easy_stays {f : Nat → Int} (h : ¬ (0 < f 1 ∨ 0 < f 0)) : easyF f = f := by unfold easyF; rw [if_neg fun x => h (.inl x), if_neg fun x => h (.inr x)]
theorem shift_bad {d : List Otc} {n : Int} (h : checkD d ≠ 0) : shiftS d n = ([], checkD d) := by unfold shiftS; rw [if_pos h]
theorem shift_far {d : List Otc} {n : Int} (h : checkD d = 0) (hn : n < -12 ∨ 12 < n) : shiftS d n = ([], 2) := by unfold shiftS; rw [if_neg (by omega), if_pos hn]
end Go.Proofs.YtdlmmbfnmnglaaaGreatDoor

namespace Go.Proofs.YtdlmmbfnmnglaaaGreatDoor
open Go.RowKit

/-- append of two elements, as a step of a region that draws. -/
theorem step_append_two {P : Program} {ops : Array Oper} {o : Oper} {a : Act} {w : World} {K : Act → World → Prop} {Q : Exit → Act → World → Prop} {E : Prop} (hgd : o.guard = none) (s x : Operand) (t : TypeId)
    (ho : o.op = .call { callee := .builtin .append, args := #[s, x], argTypes := #[t, t] })
    {e : TypeId} {size bytes : Nat} (hE : ElemOf P t e size bytes) {α : Type} {R : World → (Nat → Prop) → List Value → α → Prop} (hR : Good R)
    (base : Nat) (v : Value) (l : List α) (hs : a.eval s = v) (hown : OwnSl size R e base w v l)
    (ad : Addr) (c : Nat) (c0 c1 : List Value) (hx : a.eval x = .slice (some ad) 2 c) (x0 x1 : α) (hl0 : c0.length = size) (hl1 : c1.length = size) (hcell : ∀ j u, (c0 ++ c1)[j]? = some u → w.cell? (ad.add j) = some u)
    (h1 : ∀ u ∈ c0 ++ c1, u.oneCell' = true) (hel0 : R w NoG c0 x0) (hel1 : R w NoG c1 x1)
    (h63 : l.length + 2 ≤ maxLen) (hbytes : (l.length + 2) * bytes ≤ 140737488355328) (hbase : base ≤ w.heap.size)
    (h : ∀ v' w', OwnSl size R e base w' v' (l ++ [x0, x1]) → w.grownBy w' v.ownBlock → K (a.put o.dst v') w') :
    if Region.wanted o (yielded ops a.tmps) = true then Oper.wp P o a w K Q else E := by
  have hw : Region.wanted o (yielded ops a.tmps) = true := by simp [Region.wanted, hgd]
  rw [if_pos hw]
  obtain ⟨i, z, e1, e2, e3, e4, e5, e6, e7⟩ := hE
  obtain ⟨css, hlen, ho', hsz, hel'⟩ := hown
  obtain ⟨v', w', hr, h2, h3, _, h4⟩ := run_append_own_at (P := P) w base t o.type e i z size bytes e1 e2 e3 e4 e5 e6 e7 v l.length css.flatten ho' ad 2 c (c0 ++ c1) (by rw [List.length_append]; omega) hcell h1 h63 hbytes hbase
  unfold Oper.wp execOp
  simp only [ho, resolve, invoke, builtin, Sem.run_bind, Sem.run_pure, Result.andThen_ok, List.map_toArray, List.map_cons, List.map_nil, hs, hx, hr]
  have hS : Same NoG w w' := Same.grown h3 fun b hb => hb.elim
  refine h v' w' ⟨css ++ [c0, c1], by simp [hlen], by simpa using h2, fun c hc => ?_, fun i x c hi hc => ?_⟩ h3
  · rcases List.mem_append.1 hc with h | h
    · exact hsz c h
    · simp only [List.mem_cons, List.not_mem_nil, or_false] at h
      rcases h with rfl | rfl
      · exact hl0
      · exact hl1
  · by_cases hil : i < l.length
    · rw [List.getElem?_append_left hil] at hi
      rw [List.getElem?_append_left (by omega)] at hc
      exact hR.keep (hel' i x c hi hc) hS fun _ h => h
    · rw [List.getElem?_append_right (by omega)] at hi
      rw [List.getElem?_append_right (by omega), hlen] at hc
      rcases hj : i - l.length with _ | _ | j
      · rw [hj] at hi hc
        simp at hi hc
        subst hi; subst hc
        exact hR.keep hel0 hS fun _ h => h
      · rw [hj] at hi hc
        simp at hi hc
        subst hi; subst hc
        exact hR.keep hel1 hS fun _ h => h
      · rw [hj] at hi
        simp at hi
/-- The weights f lie in block g, made by this call. -/
structure Wk (w : World) (g : Nat) (W : World) (f : Nat → Int) : Prop where
  bel : Below w.heap.size w W
  hg : w.heap.size ≤ g
  wt : WAt W g f
section
variable {w W W' : World} {g : Nat} {f f' : Nat → Int}
theorem Wk.alloc (h : Wk w g W f) (o : Obj) : Wk w g (W.alloc o) f := ⟨h.bel.alloc h.bel.size o, h.hg, Blk.alloc h.wt o⟩
theorem Wk.drew (h : Wk w g W f) : Wk w g W.drew f := ⟨h.bel.drew, h.hg, h.wt.drew⟩
theorem Wk.only (h : Wk w g W f) (ho : Only g W W') (hw : WAt W' g f') : Wk w g W' f' := ⟨h.bel.trans (ho.below h.hg h.bel.size), h.hg, hw⟩
theorem Wk.below (h : Wk w g W f) (hb : Below W.heap.size W W') : Wk w g W' f := ⟨h.bel.trans (hb.mono h.bel.size), h.hg, Blk.below h.wt hb (Blk.lt h.wt)⟩
theorem Wk.putP (h : Wk w g W f) {r : Nat} (hr : r ≤ 7) (h0 : f (2 * r) = 0) {x : Int} (hf : f' = upd f (2 * r) x) : Wk w g (W.setCell ⟨g, r, none⟩ (.int .i64 x)) f' := by
  have := h.wt.setPlain r x hr
  rw [h0, Int.zero_add] at this
  exact hf ▸ h.only ((Only.refl g W).setCell (p := ⟨g, r, none⟩) (.inl rfl) _) this
theorem Wk.putW (h : Wk w g W f) {r : Nat} (hr : r ≤ 7) (h0 : f (2 * r + 1) = 0) {x : Int} (hf : f' = upd f (2 * r + 1) x) : Wk w g (W.setCell ⟨g, 8 + r, none⟩ (.int .i64 x)) f' := by
  have := h.wt.setWick r x hr
  rw [h0, Int.zero_add] at this
  exact hf ▸ h.only ((Only.refl g W).setCell (p := ⟨g, 8 + r, none⟩) (.inl rfl) _) this
end
theorem wk_new {w W : World} (hb : Below w.heap.size w W) : Wk w W.heap.size (W.alloc (.cells #[.int .i64 0, .int .i64 0, .int .i64 0, .int .i64 0, .int .i64 0, .int .i64 0, .int .i64 0, .int .i64 0, .int .i64 0, .int .i64 0, .int .i64 0, .int .i64 0, .int .i64 0, .int .i64 0, .int .i64 0, .int .i64 0] 188)) fun _ => 0 :=
  ⟨hb.alloc hb.size _, hb.size, Blk.new W _ _⟩
theorem own_drewO {B : Nat} {W : World} {v : Value} {l : List Otc} (h : OwnSl 3 elOtc 110 B W v l) : OwnSl 3 elOtc 110 B W.drew v l := h.below elOtc_good (Below.drew (Below.refl _ _))
theorem room2 (f : Nat → Int) {k : Nat} (hk : k ≤ 8) : (allF f k).length + 2 ≤ maxLen ∧ ((allF f k).length + 2) * 24 ≤ 140737488355328 := by rw [allF_len]; simp only [maxLen]; omega
theorem wAt_none0 (d : List Otc) : wAt (d.take 0) = fun _ => 0 := rfl
set_option maxRecDepth 100000 in
set_option maxHeartbeats 4000000 in
theorem m_Shift (d : List Otc) (v : Value) (n : Int) (w : World) (h : Sl 3 elOtc w (· < w.heap.size) v d) : Calls Tryz.prog 112 #[v, .int .i64 n] w (OtcPost w (shiftS d n)) := by
  obtain ⟨z, hz⟩ : ∃ z, z = shiftS d n := ⟨_, rfl⟩
  rw [← hz]
  obtain ⟨A, c, rfl, hc, hc2⟩ := h.shape
  have kch := ch_Check d _ w h
  have hdl : checkD d = 0 → Neat d ∧ Fit (wAt d) ∧ d.length ≤ 64 := fun h0 => ⟨checkD_neat h0, fit_of h0, by have := (checkD_ok h0).len; omega⟩
  have hbad := fun h0 : checkD d ≠ 0 => shift_bad (n := n) h0
  have hfar := fun (h0 : checkD d = 0) => shift_far (n := n) h0
  have hok := fun (h0 : checkD d = 0) => shift_ok (n := n) h0
  obtain ⟨cd, hcd⟩ : ∃ cd, cd = checkD d := ⟨_, rfl⟩
  rw [← hcd] at kch hdl hbad hfar hok
  have H := Lib.hid h
  have HZ := Lib.hid hz
  have KCH := Lib.hid kch
  clear h hz kch hcd
  go_enter Tryz.func112, Tryz.ntmps112
  by_cases h0 : cd = 0
  · obtain ⟨hn, hf, hl⟩ := hdl h0
    by_cases h1 : n < -12 ∨ 12 < n
    · have hz2 := HZ.out
      rw [hfar h0 h1] at hz2
      have HZ2 := Lib.hid hz2
      have e0 : (cd != 0) = false := by simpa using h0
      clear hz2 hbad hfar hok hdl hn hf hl h0
      rcases h1 with h1 | h1
      · have e1 : decide (n < -12) = true := decide_eq_true h1
        go_wp2_with (go_at_call 106; refine KCH.out.mono ?_; rintro e w1 ⟨rfl, hb1⟩; have HB1 := Lib.hid hb1; clear hb1)
        go_ret2
        exact otc_nil HB1.out HZ2.out
      · have e1 : decide (n < -12) = false := decide_eq_false (by omega)
        have e2 : decide (12 < n) = true := decide_eq_true h1
        go_wp2_with (go_at_call 106; refine KCH.out.mono ?_; rintro e w1 ⟨rfl, hb1⟩; have HB1 := Lib.hid hb1; clear hb1)
        go_ret2
        exact otc_nil HB1.out HZ2.out
    · have hz2 := HZ.out
      rw [hok h0 (by omega) (by omega), ← move_two] at hz2
      have HZ2 := Lib.hid hz2
      have e0 : (cd != 0) = false := by simpa using h0
      have e1 : decide (n < -12) = false := decide_eq_false (by omega)
      have e2 : decide (12 < n) = false := decide_eq_false (by omega)
      have n0 : -12 ≤ n := by omega
      have n1 : n ≤ 12 := by omega
      obtain ⟨f0, hf0⟩ : ∃ f0, f0 = wAt d := ⟨_, rfl⟩
      rw [← hf0] at hf
      have HF0 := Lib.hid hf0
      have HF := Lib.hid hf
      have HN := Lib.hid hn
      have HL := Lib.hid hl
      clear hz2 hbad hfar hok hdl hn hf hl h0 h1 hf0 HZ
      go_upto_block 2 with (go_at_call 106; refine KCH.out.mono ?_; rintro e w1 ⟨rfl, hb1⟩; have HB1 := Lib.hid hb1; clear hb1)
      have hwk := wk_new HB1.out
      rw [← wAt_none0 d] at hwk
      generalize w1.alloc _ = W1 at hwk ⊢
      generalize w1.heap.size = g at hwk ⊢
      have HWK := Lib.hid hwk
      clear hwk HB1 KCH
      go_loopw [27] (fun i wr => ∃ k : Nat, k ≤ d.length ∧ i = .int .i64 k ∧ Hid (Wk w g wr (wAt (d.take k)))) (fun i _ => d.length - (intOf i).toNat)
      case atStart => exact ⟨0, Nat.zero_le _, rfl, HWK⟩
      case round =>
        obtain ⟨k, hk, rfl, hwk⟩ := hrel
        by_cases hlt : k < d.length
        · obtain ⟨b, o, rfl, hbl, y0', y1', y2'⟩ := otc_at H.out hlt
          obtain ⟨hup, hze⟩ := take_upd HN.out hlt
          have hea := HN.out.each _ (List.getElem_mem hlt)
          obtain ⟨⟨pr, pw, pt⟩, hp⟩ : ∃ p, p = d[k] := ⟨_, rfl⟩
          rw [← hp] at y0' y1' y2' hup hze hea
          have y0 := (hwk.out.bel.cell (p := ⟨b, o + k * 3, none⟩) hbl).trans y0'
          have y1 := (hwk.out.bel.cell (p := ⟨b, o + k * 3 + 1, none⟩) hbl).trans y1'
          have y2 := (hwk.out.bel.cell (p := ⟨b, o + k * 3 + 2, none⟩) hbl).trans y2'
          obtain ⟨hr0, hr7, hpt⟩ := hea
          dsimp only at y0 y1 y2 hr0 hr7 hup hze
          obtain ⟨r, rfl⟩ : ∃ r : Nat, pr = (r : Int) := ⟨pr.toNat, by omega⟩
          have hr : r ≤ 7 := by omega
          have hr8 : (r : Int) < 8 := by omega
          have HUP := Lib.hid hup
          have HZE := Lib.hid hze
          have HWR := Lib.hid hwk.out
          clear hup hze hp y0' y1' y2' hwk hpt hr0 hr7
          cases pw with
          | false =>
            have hky : keyO ⟨(r : Int), false, pt⟩ = 2 * r := by unfold keyO; simp
            have hw1 := (HWR.out.alloc (.cells #[.int .i64 r, .bool false, .int .i64 pt] 110)).putP hr (by rw [← hky]; exact HZE.out) (x := pt) (f' := wAt (d.take (k + 1))) (by rw [← hky]; exact HUP.out)
            obtain ⟨p0, pf⟩ := (HWR.out.alloc (.cells #[.int .i64 r, .bool false, .int .i64 pt] 110)).wt.plain r hr
            have HW1 := Lib.hid hw1
            clear hky hw1 HUP HZE
            go_wp2
            go_roundw
            case rel => exact ⟨k + 1, by omega, by go_num, HW1⟩
            case measure => simp [intOf]; omega
          | true =>
            have hky : keyO ⟨(r : Int), true, pt⟩ = 2 * r + 1 := by unfold keyO; simp
            have hw1 := (HWR.out.alloc (.cells #[.int .i64 r, .bool true, .int .i64 pt] 110)).putW hr (by rw [← hky]; exact HZE.out) (x := pt) (f' := wAt (d.take (k + 1))) (by rw [← hky]; exact HUP.out)
            obtain ⟨p0, pf⟩ := (HWR.out.alloc (.cells #[.int .i64 r, .bool true, .int .i64 pt] 110)).wt.wick r hr
            have HW1 := Lib.hid hw1
            clear hky hw1 HUP HZE
            go_wp2
            go_roundw
            case rel => exact ⟨k + 1, by omega, by go_num, HW1⟩
            case measure => simp [intOf]; omega
        · obtain rfl : k = d.length := by omega
          have hw0 := hwk.out
          rw [List.take_of_length_le (Nat.le_refl _), ← HF0.out] at hw0
          have HW0 := Lib.hid hw0
          have hz3 := HZ2.out
          rw [← HF0.out] at hz3
          have KH := Lib.hid fun (k : Nat) (W : World) (h : Wk w g W (hardK f0 k)) (hk : k ≤ 12) => w_harder (hardK f0 k) k g W h.wt (HF.out.hardK k) (by omega)
          obtain ⟨f1, hf1⟩ : ∃ f1, f1 = hardK f0 n.toNat := ⟨_, rfl⟩
          rw [← hf1] at hz3
          have HF1 := Lib.hid hf1
          have HFF := Lib.hid (show Fit f1 from hf1 ▸ HF.out.hardK _)
          have HZ3 := Lib.hid hz3
          clear hwk hw0 hz3 HZ2 HN HF0 hk hlt hf1 HF
          go_upto_block 2 with fail
          go_cut [] (fun wx => Wk w g wx f1)
          case first =>
            go_wp2_with fail
            go_loopw [10] (fun i wr => ∃ k : Nat, (k = 0 ∨ (k : Int) ≤ n) ∧ i = .int .i64 k ∧ Hid (Wk w g wr (hardK f0 k))) (fun i _ => 12 - (intOf i).toNat)
            case atStart => exact ⟨0, .inl rfl, rfl, HW0⟩
            case round =>
              obtain ⟨k, hk, rfl, hwk⟩ := hrel
              have hk12 : k ≤ 12 := by omega
              by_cases hlt : (k : Int) < n
              · have el : decide ((k : Int) < n) = true := decide_eq_true hlt
                have kh := KH.out k _ hwk.out hk12
                by_cases ht : topF (hardK f0 k) 7 = 0
                · have hs : f1 = hardF k (hardK f0 k) := by rw [HF1.out, hard_same ht (by omega), hard_stays ht]
                  rw [show decide (topF (hardK f0 k) 7 ≠ 0) = false from decide_eq_false (by simpa using ht), ← hs] at kh
                  have KHH := Lib.hid kh
                  have HWK := Lib.hid hwk.out
                  clear hwk ht hs kh hk hlt
                  go_wp2_with (go_at_call 148; refine KHH.out.mono ?_; rintro e w2 ⟨rfl, hw2, ho2⟩; have HW2 := Lib.hid (HWK.out.only ho2 hw2); clear hw2 ho2)
                  go_meet
                  exact HW2.out
                · have hs : hardK f0 (k + 1) = hardF k (hardK f0 k) := rfl
                  rw [show decide (topF (hardK f0 k) 7 ≠ 0) = true from decide_eq_true ht, ← hs] at kh
                  have KHH := Lib.hid kh
                  have HWK := Lib.hid hwk.out
                  clear hwk ht hs kh hk
                  go_wp2_with (go_at_call 148; refine KHH.out.mono ?_; rintro e w2 ⟨rfl, hw2, ho2⟩; have HW2 := Lib.hid (HWK.out.only ho2 hw2); clear hw2 ho2)
                  go_roundw
                  case rel => exact ⟨k + 1, .inr (by omega), by go_num, HW2⟩
                  case measure => simp [intOf]; omega
              · have el : decide ((k : Int) < n) = false := decide_eq_false hlt
                have hw1 := hwk.out
                rw [show hardK f0 k = f1 from by rw [HF1.out]; congr 1; omega] at hw1
                have HW1 := Lib.hid hw1
                clear hwk hw1 hk hlt
                go_wp2
                go_meet
                exact HW1.out
          case rest =>
            have HW1 := Lib.hid hcut
            have KE := Lib.hid fun (k : Nat) (W : World) (h : Wk w g W (easyK f1 k)) => w_easier (easyK f1 k) g W h.wt (HFF.out.easyK k)
            have hz4 := HZ3.out
            obtain ⟨f2, hf2⟩ : ∃ f2, f2 = easyK f1 (-n).toNat := ⟨_, rfl⟩
            rw [← hf2] at hz4
            have HF2 := Lib.hid hf2
            have HFI := Lib.hid (show Fit f2 from hf2 ▸ HFF.out.easyK _)
            have HZ4 := Lib.hid hz4
            clear hcut hz4 hf2 HZ3 HFF
            go_upto_block 4 with fail
            go_cut [] (fun wx => Wk w g wx f2)
            case first =>
              go_wp2_with fail
              go_loopw [11] (fun i wr => ∃ k : Nat, (k = 0 ∨ (k : Int) ≤ -n) ∧ i = .int .i64 k ∧ Hid (Wk w g wr (easyK f1 k))) (fun i _ => 12 - (intOf i).toNat)
              case atStart => exact ⟨0, .inl rfl, rfl, HW1⟩
              case round =>
                obtain ⟨k, hk, rfl, hwk⟩ := hrel
                have hk12 : k ≤ 12 := by omega
                by_cases hlt : (k : Int) < -n
                · have el : decide ((k : Int) < -n) = true := decide_eq_true hlt
                  have kh := KE.out k _ hwk.out
                  by_cases ht : 0 < easyK f1 k 1 ∨ 0 < easyK f1 k 0
                  · have hs : easyK f1 (k + 1) = easyF (easyK f1 k) := rfl
                    rw [show decide (0 < easyK f1 k 1 ∨ 0 < easyK f1 k 0) = true from decide_eq_true ht, ← hs] at kh
                    have KHH := Lib.hid kh
                    have HWK := Lib.hid hwk.out
                    clear hwk ht hs kh hk
                    go_wp2_with (go_at_call 149; refine KHH.out.mono ?_; rintro e w2 ⟨rfl, hw2, ho2⟩; have HW2 := Lib.hid (HWK.out.only ho2 hw2); clear hw2 ho2)
                    go_roundw
                    case rel => exact ⟨k + 1, .inr (by omega), by go_num, HW2⟩
                    case measure => simp [intOf]; omega
                  · have hs : f2 = easyF (easyK f1 k) := by rw [HF2.out, easy_same ht (by omega), easy_stays ht]
                    rw [show decide (0 < easyK f1 k 1 ∨ 0 < easyK f1 k 0) = false from decide_eq_false ht, ← hs] at kh
                    have KHH := Lib.hid kh
                    have HWK := Lib.hid hwk.out
                    clear hwk ht hs kh hk hlt
                    go_wp2_with (go_at_call 149; refine KHH.out.mono ?_; rintro e w2 ⟨rfl, hw2, ho2⟩; have HW2 := Lib.hid (HWK.out.only ho2 hw2); clear hw2 ho2)
                    go_meet
                    exact HW2.out
                · have el : decide ((k : Int) < -n) = false := decide_eq_false hlt
                  have hw1 := hwk.out
                  rw [show easyK f1 k = f2 from by rw [HF2.out]; congr 1; omega] at hw1
                  have HW1 := Lib.hid hw1
                  clear hwk hw1 hk hlt
                  go_wp2
                  go_meet
                  exact HW1.out
            case rest =>
              have HW2 := Lib.hid hcut
              clear hcut HF2 KE HF1 KH HW1 HW0
              have hgw : g < wc.heap.size := Blk.lt HW2.out.wt
              have KN := Lib.hid fun (v : Value) (W : World) (h : Sl 3 elOtc W (· < W.heap.size) v (allF f2 8)) => (normS_all HFI.out) ▸ ch_Norm (allF f2 8) v W h
              have tok0 : True := trivial
              go_wp2_with fail
              go_loopw [64, 12] (fun i ov wr => ∃ k : Nat, k ≤ 8 ∧ i = .int .i64 k ∧ Hid (Below wc.heap.size wc wr) ∧ Hid (OwnSl 3 elOtc 110 wc.heap.size wr ov (allF f2 k))) (fun i _ _ => 8 - (intOf i).toNat)
              case atStart => exact ⟨0, by omega, rfl, Lib.hid (Below.refl _ _), Lib.hid (OwnSl.nil _)⟩
              case round =>
                obtain ⟨k, hk, rfl, HB, HO⟩ := hrel
                by_cases hlt : k < 8
                · have hwk := HW2.out.below HB.out
                  obtain ⟨p0, _⟩ := hwk.wt.plain k (by omega)
                  obtain ⟨p1, _⟩ := hwk.wt.wick k (by omega)
                  have hk8 : (k : Int) < 8 := by omega
                  have hsz := HB.out.size
                  have hrm := room2 f2 hk
                  have HRM := Lib.hid hrm
                  obtain ⟨A3, c3, rfl⟩ := own_len HO.out
                  obtain ⟨ob, hob⟩ : ∃ ob : Obj, ob = (.cells #[.int .i64 k, .bool false, .int .i64 (f2 (2 * k)), .int .i64 k, .bool true, .int .i64 (f2 (2 * k + 1))] 110) := ⟨_, rfl⟩
                  have hap : ∀ w6 : World, (wr.alloc ob).drew.grownBy w6 (Value.slice A3 (allF f2 k).length c3).ownBlock → Below wc.heap.size wc w6 := fun w6 hg6 =>
                    below_own (Below.drew (Below.alloc HB.out hsz ob)) (own_drewO (HO.out.alloc elOtc_good ob)) hg6 (Nat.le_refl _) (base1 hsz ob)
                  rw [hob] at hap
                  have HAP := Lib.hid hap
                  clear hap hob
                  clear hwk hrm
                  go_wp2_with fail
                  go_region_law ((refine step_append_two rfl (.tmp 67) (.tmp 80) _ rfl E_otc elOtc_good wc.heap.size (.slice A3 (allF f2 k).length c3) (allF f2 k) rfl (own_drewO (HO.out.alloc elOtc_good _)) ⟨wr.heap.size, 0, none⟩ 2 [.int .i64 k, .bool false, .int .i64 (f2 (2 * k))] [.int .i64 k, .bool true, .int .i64 (f2 (2 * k + 1))] rfl ⟨k, false, f2 (2 * k)⟩ ⟨k, true, f2 (2 * k + 1)⟩ rfl rfl (cells_new _ _ _ _) (oneCells rfl) rfl rfl HRM.out.1 HRM.out.2 (base1 hsz _) ?_); intro v6 w6 hown6 hg6; have HB6 := Lib.hid (HAP.out w6 hg6); have HO6 := Lib.hid hown6; clear hown6 hg6)
                  all_goals
                    go_wp2_with fail
                    go_roundw
                    case rel => exact ⟨k + 1, by omega, by go_num, HB6, HO6⟩
                    case measure => simp [intOf]; omega
                · obtain rfl : k = 8 := by omega
                  have HSL := Lib.hid ((HO.out.sl elOtc_good).keep elOtc_good (G := (· < wr.heap.size)) (Same.refl _ _) fun b h => h.2)
                  have HBE := Lib.hid (HW2.out.below HB.out).bel
                  clear hk hlt HO HB
                  go_wp2_with (clear tok0; go_at_call 150; refine (KN.out _ _ HSL.out).mono ?_; rintro e w7 ⟨v7, rfl, hs7, hb7⟩; have HS7 := Lib.hid hs7; have HB7 := Lib.hid hb7; clear hs7 hb7)
                  go_ret2
                  rw [HZ4.out]
                  exact ⟨v7, rfl, HS7.out.keep elOtc_good (Same.refl _ _) (fun b hx => ⟨Nat.le_trans HBE.out.size hx.1, hx.2⟩), HBE.out.trans (HB7.out.mono HBE.out.size)⟩
  · have hz2 := HZ.out
    rw [hbad h0] at hz2
    have HZ2 := Lib.hid hz2
    have e0 : (cd != 0) = true := by simp [h0]
    clear hz2 hbad hfar hok hdl h0
    go_wp2_with (go_at_call 106; refine KCH.out.mono ?_; rintro e w1 ⟨rfl, hb1⟩; have HB1 := Lib.hid hb1; clear hb1)
    go_ret2
    exact otc_nil HB1.out (by rw [HZ2.out])
end Go.Proofs.YtdlmmbfnmnglaaaGreatDoor

namespace Go.Proofs.YtdlmmbfnmnglaaaGreatDoor
open Go.RowKit

theorem mostK_step {d : List Otc} {k : Nat} (hk : k < d.length) : mostK d (k + 1) = if d[k].wick = false ∧ 0 < d[k].runs ∧ 0 < d[k].wt ∧ (mostK d k < 0 ∨ ((d[(mostK d k).toNat]?).map (·.runs)).getD 0 < d[k].runs) then (k : Int) else mostK d k := by
  rw [mostK, List.getElem?_eq_getElem hk]
theorem dotF_step (t : Bool) {d : List Otc} {k : Nat} (hk : k < d.length) : dotF t (d.drop k) k = if d[k].runs = 0 ∧ d[k].wick = t ∧ 0 < d[k].wt then (k : Int) else dotF t (d.drop (k + 1)) (k + 1) := by
  rw [List.drop_eq_getElem_cons hk, dotF]
set_option maxRecDepth 100000 in
set_option maxHeartbeats 4000000 in
theorem r_dot (d : List Otc) (v : Value) (t : Bool) (F : Nat → Prop) (w : World) (h : Sl 3 elOtc w F v d) (hF : ∀ b, F b → b < w.heap.size) : Calls Tryz.prog 146 #[v, .bool t] w fun e w' => e = .returned (.int .i64 (dotS d t)) ∧ Below w.heap.size w w' := by
  obtain ⟨z, hz⟩ : ∃ z, z = dotS d t := ⟨_, rfl⟩
  rw [← hz]
  obtain ⟨A, c, rfl, hc, hc2⟩ := h.shape
  have H := Lib.hid h
  have HF := Lib.hid hF
  have HZ := Lib.hid (show dotF t (d.drop 0) 0 = z from by rw [hz, List.drop_zero]; rfl)
  clear h hF hz
  go_enter Tryz.func146, Tryz.ntmps146
  go_wp2
  go_loopw [9] (fun i wr => ∃ k : Nat, k ≤ d.length ∧ i = .int .i64 k ∧ Hid (Below w.heap.size w wr) ∧ Hid (dotF t (d.drop k) k = z)) (fun i _ => d.length - (intOf i).toNat)
  case atStart => exact ⟨0, Nat.zero_le _, rfl, Lib.hid (Below.refl _ _), HZ⟩
  case round =>
    obtain ⟨k, hk, rfl, HB, hz⟩ := hrel
    by_cases hlt : k < d.length
    · obtain ⟨b, o, rfl, hbl, y0', y1', y2'⟩ := otc_at H.out hlt
      have hst := dotF_step t hlt
      rw [hz.out] at hst
      obtain ⟨⟨pr, pw, pt⟩, hp⟩ : ∃ p, p = d[k] := ⟨_, rfl⟩
      rw [← hp] at y0' y1' y2' hst
      have y0 := (HB.out.cell (p := ⟨b, o + k * 3, none⟩) (HF.out _ hbl)).trans y0'
      have y1 := (HB.out.cell (p := ⟨b, o + k * 3 + 1, none⟩) (HF.out _ hbl)).trans y1'
      have y2 := (HB.out.cell (p := ⟨b, o + k * 3 + 2, none⟩) (HF.out _ hbl)).trans y2'
      dsimp only at y0 y1 y2 hst
      clear y0' y1' y2' hp hz HZ
      rcases boorJ (pr == 0) with e1 | e1
      · have h1 : pr = 0 := by simpa using e1
        rcases boorJ (pw == t) with e2 | e2
        · have h2 : pw = t := by simpa using e2
          rcases boorJ (decide (0 < pt)) with e3 | e3
          · have h3 : 0 < pt := of_decide_eq_true e3
            have HST := Lib.hid (show z = (k : Int) from by rw [hst, if_pos ⟨h1, h2, h3⟩])
            clear hst h1 h2 h3
            go_wp2
            go_ret
            exact ⟨by rw [HST.out]; rfl, Below.alloc HB.out HB.out.size _⟩
          · have h3 : ¬ 0 < pt := of_decide_eq_false e3
            have HST := Lib.hid (show dotF t (d.drop (k + 1)) (k + 1) = z from by rw [hst, if_neg (by exact fun h => h3 h.2.2)])
            clear hst h1 h2 h3
            go_wp2
            go_roundw
            case rel => exact ⟨k + 1, by omega, by go_num, Lib.hid (Below.alloc HB.out HB.out.size _), HST⟩
            case measure => simp [intOf]; omega
        · have h2 : ¬ pw = t := by simpa using e2
          have HST := Lib.hid (show dotF t (d.drop (k + 1)) (k + 1) = z from by rw [hst, if_neg (by exact fun h => h2 h.2.1)])
          clear hst h1 h2
          go_wp2
          go_roundw
          case rel => exact ⟨k + 1, by omega, by go_num, Lib.hid (Below.alloc HB.out HB.out.size _), HST⟩
          case measure => simp [intOf]; omega
      · have h1 : ¬ pr = 0 := by simpa using e1
        have HST := Lib.hid (show dotF t (d.drop (k + 1)) (k + 1) = z from by rw [hst, if_neg (by exact fun h => h1 h.1)])
        clear hst h1
        go_wp2
        go_roundw
        case rel => exact ⟨k + 1, by omega, by go_num, Lib.hid (Below.alloc HB.out HB.out.size _), HST⟩
        case measure => simp [intOf]; omega
    · obtain rfl : k = d.length := by omega
      have hs := hz.out
      rw [List.drop_of_length_le (Nat.le_refl _)] at hs
      have HST := Lib.hid (show z = -1 from hs.symm)
      clear hs hz hlt HZ
      go_wp2
      go_ret
      exact ⟨by rw [HST.out]; rfl, HB.out⟩
set_option maxRecDepth 100000 in
set_option maxHeartbeats 4000000 in
theorem r_most (d : List Otc) (v : Value) (F : Nat → Prop) (w : World) (h : Sl 3 elOtc w F v d) (hF : ∀ b, F b → b < w.heap.size) : Calls Tryz.prog 144 #[v] w fun e w' => e = .returned (.int .i64 (mostS d)) ∧ Below w.heap.size w w' := by
  obtain ⟨z, hz⟩ : ∃ z, z = mostS d := ⟨_, rfl⟩
  rw [← hz]
  obtain ⟨A, c, rfl, hc, hc2⟩ := h.shape
  have H := Lib.hid h
  have HF := Lib.hid hF
  have HZ := Lib.hid (show z = mostK d d.length from hz)
  clear h hF hz
  go_enter Tryz.func144, Tryz.ntmps144
  go_wp2
  go_loopw [8, 3] (fun i mv wr => ∃ (k : Nat) (m : Int), k ≤ d.length ∧ i = .int .i64 k ∧ mv = .int .i64 m ∧ Hid (Below w.heap.size w wr) ∧ Hid (m = mostK d k)) (fun i _ _ => d.length - (intOf i).toNat)
  case atStart => exact ⟨0, -1, Nat.zero_le _, rfl, rfl, Lib.hid (Below.refl _ _), Lib.hid rfl⟩
  case round =>
    obtain ⟨k, m, hk, rfl, rfl, HB, hm⟩ := hrel
    by_cases hlt : k < d.length
    · obtain ⟨b, o, rfl, hbl, y0', y1', y2'⟩ := otc_at H.out hlt
      have hst := mostK_step hlt
      obtain ⟨⟨pr, pw, pt⟩, hp⟩ : ∃ p, p = d[k] := ⟨_, rfl⟩
      rw [← hp] at y0' y1' y2' hst
      have y0 := (HB.out.cell (p := ⟨b, o + k * 3, none⟩) (HF.out _ hbl)).trans y0'
      have y1 := (HB.out.cell (p := ⟨b, o + k * 3 + 1, none⟩) (HF.out _ hbl)).trans y1'
      have y2 := (HB.out.cell (p := ⟨b, o + k * 3 + 2, none⟩) (HF.out _ hbl)).trans y2'
      dsimp only at y0 y1 y2 hst
      clear y0' y1' y2' hp
      rcases mostK_at d k (by omega) with ⟨h1, _⟩ | ⟨i, hi, hik, h1, _, _⟩
      · obtain rfl : m = -1 := by rw [hm.out, h1]
        rw [h1] at hst
        clear hm h1
        rcases boorJ pw with rfl | rfl
        ·
          have HST := Lib.hid (show (-1 : Int) = mostK d (k + 1) from by rw [hst, if_neg (by rintro ⟨h, _⟩; cases h)])
          clear hst 
          go_wp2_with fail
          go_quiet (fail)
          go_wp2_with fail
          go_roundw
          case rel => exact ⟨k + 1, _, by omega, by go_num, rfl, Lib.hid (Below.drewN_ (Below.alloc HB.out HB.out.size _) _), HST⟩
          case measure => simp [intOf]; omega
        · rcases boorJ (decide (0 < pr)) with e2 | e2
          · have h2 : 0 < pr := of_decide_eq_true e2
            rcases boorJ (decide (0 < pt)) with e3 | e3
            · have h3 : 0 < pt := of_decide_eq_true e3
              have HST := Lib.hid (show (k : Int) = mostK d (k + 1) from by rw [hst, if_pos ⟨rfl, h2, h3, .inl (by omega)⟩])
              clear hst h2 h3
              go_wp2_with fail
              go_quiet (fail)
              go_wp2_with fail
              go_roundw
              case rel => exact ⟨k + 1, _, by omega, by go_num, rfl, Lib.hid (Below.drewN_ (Below.alloc HB.out HB.out.size _) _), HST⟩
              case measure => simp [intOf]; omega
            · have h3 : ¬ 0 < pt := of_decide_eq_false e3
              have HST := Lib.hid (show (-1 : Int) = mostK d (k + 1) from by rw [hst, if_neg (fun h => h3 h.2.2.1)])
              clear hst h2 h3
              go_wp2_with fail
              go_quiet (fail)
              go_wp2_with fail
              go_roundw
              case rel => exact ⟨k + 1, _, by omega, by go_num, rfl, Lib.hid (Below.drewN_ (Below.alloc HB.out HB.out.size _) _), HST⟩
              case measure => simp [intOf]; omega
          · have h2 : ¬ 0 < pr := of_decide_eq_false e2
            have HST := Lib.hid (show (-1 : Int) = mostK d (k + 1) from by rw [hst, if_neg (fun h => h2 h.2.1)])
            clear hst h2
            go_wp2_with fail
            go_quiet (fail)
            go_wp2_with fail
            go_roundw
            case rel => exact ⟨k + 1, _, by omega, by go_num, rfl, Lib.hid (Below.drewN_ (Below.alloc HB.out HB.out.size _) _), HST⟩
            case measure => simp [intOf]; omega
      · obtain rfl : m = (i : Int) := by rw [hm.out, h1]
        rw [h1, Int.toNat_natCast, List.getElem?_eq_getElem hi] at hst
        obtain ⟨b9, o9, hb9, _, z0', _, _⟩ := otc_at H.out hi
        simp only [Option.some.injEq, Addr.mk.injEq, and_true] at hb9
        obtain ⟨rfl, rfl⟩ := hb9
        obtain ⟨⟨qr, qw, qt⟩, hq⟩ : ∃ q, q = d[i] := ⟨_, rfl⟩
        rw [← hq] at z0' hst
        dsimp only [Option.map_some, Option.getD_some] at z0' hst
        have HZ0 := Lib.hid z0'
        have ei : (i : Int) < (d.length : Int) := by omega
        have e0 : decide ((i : Int) < 0) = false := decide_eq_false (by omega)
        clear hm h1 z0' hq
        rcases boorJ pw with rfl | rfl
        ·
          have HST := Lib.hid (show ((i : Int) : Int) = mostK d (k + 1) from by rw [hst, if_neg (by rintro ⟨h, _⟩; cases h)])
          clear hst 
          go_wp2_with fail
          go_quiet (fail)
          go_wp2_with fail
          go_roundw
          case rel => exact ⟨k + 1, _, by omega, by go_num, rfl, Lib.hid (Below.drewN_ (Below.alloc HB.out HB.out.size _) _), HST⟩
          case measure => simp [intOf]; omega
        · rcases boorJ (decide (0 < pr)) with e2 | e2
          · have h2 : 0 < pr := of_decide_eq_true e2
            rcases boorJ (decide (0 < pt)) with e3 | e3
            · have h3 : 0 < pt := of_decide_eq_true e3
              rcases boorJ (decide (qr < pr)) with e4 | e4
              · have h4 : qr < pr := of_decide_eq_true e4
                have HST := Lib.hid (show (k : Int) = mostK d (k + 1) from by rw [hst, if_pos ⟨rfl, h2, h3, .inr h4⟩])
                clear hst h2 h3 h4
                go_wp2_with fail
                have z0 := ((Below.alloc HB.out HB.out.size (.cells #[.int .i64 pr, .bool false, .int .i64 pt] 110)).cell (p := ⟨b, o + i * 3, none⟩) (HF.out _ hbl)).trans HZ0.out
                go_quiet (fail)
                go_wp2_with fail
                go_roundw
                case rel => exact ⟨k + 1, _, by omega, by go_num, rfl, Lib.hid (Below.drewN_ (Below.alloc HB.out HB.out.size _) _), HST⟩
                case measure => simp [intOf]; omega
              · have h4 : ¬ qr < pr := of_decide_eq_false e4
                have HST := Lib.hid (show ((i : Int) : Int) = mostK d (k + 1) from by rw [hst, if_neg (fun h => h.2.2.2.elim (fun h => by omega) h4)])
                clear hst h2 h3 h4
                go_wp2_with fail
                have z0 := ((Below.alloc HB.out HB.out.size (.cells #[.int .i64 pr, .bool false, .int .i64 pt] 110)).cell (p := ⟨b, o + i * 3, none⟩) (HF.out _ hbl)).trans HZ0.out
                go_quiet (fail)
                go_wp2_with fail
                go_roundw
                case rel => exact ⟨k + 1, _, by omega, by go_num, rfl, Lib.hid (Below.drewN_ (Below.alloc HB.out HB.out.size _) _), HST⟩
                case measure => simp [intOf]; omega
            · have h3 : ¬ 0 < pt := of_decide_eq_false e3
              have HST := Lib.hid (show ((i : Int) : Int) = mostK d (k + 1) from by rw [hst, if_neg (fun h => h3 h.2.2.1)])
              clear hst h2 h3
              go_wp2_with fail
              go_quiet (fail)
              go_wp2_with fail
              go_roundw
              case rel => exact ⟨k + 1, _, by omega, by go_num, rfl, Lib.hid (Below.drewN_ (Below.alloc HB.out HB.out.size _) _), HST⟩
              case measure => simp [intOf]; omega
          · have h2 : ¬ 0 < pr := of_decide_eq_false e2
            have HST := Lib.hid (show ((i : Int) : Int) = mostK d (k + 1) from by rw [hst, if_neg (fun h => h2 h.2.1)])
            clear hst h2
            go_wp2_with fail
            go_quiet (fail)
            go_wp2_with fail
            go_roundw
            case rel => exact ⟨k + 1, _, by omega, by go_num, rfl, Lib.hid (Below.drewN_ (Below.alloc HB.out HB.out.size _) _), HST⟩
            case measure => simp [intOf]; omega
    · obtain rfl : k = d.length := by omega
      have HST := Lib.hid (show z = m from by rw [HZ.out, hm.out])
      clear hm hlt HZ
      go_wp2
      go_ret
      exact ⟨by rw [HST.out]; rfl, HB.out⟩
end Go.Proofs.YtdlmmbfnmnglaaaGreatDoor

namespace Go.Proofs.YtdlmmbfnmnglaaaGreatDoor
open Go.RowKit

theorem placeO_hit {r : Int} {w : Bool} {l : List Otc} {k : Nat} (hk : k < l.length) (hit : l[k].runs = r ∧ l[k].wick = w) (hno : ∀ j (hj : j < l.length), j < k → ¬ (l[j].runs = r ∧ l[j].wick = w)) : placeO r w l = k := by
  rcases Nat.lt_trichotomy (placeO r w l) k with h | h | h
  · exact absurd (placeO_lt r w l (by omega)) (hno _ (by omega) h)
  · exact h
  · exact absurd hit (placeO_before r w l k hk h)
theorem give_hit {r : Int} {w : Bool} {l : List Otc} {k : Nat} (hk : k < l.length) (hit : l[k].runs = r ∧ l[k].wick = w) (hno : ∀ j (hj : j < l.length), j < k → ¬ (l[j].runs = r ∧ l[j].wick = w)) : giveL l r w = l.set k { l[k] with wt := l[k].wt + 1 } := by
  unfold giveL
  rw [placeO_hit hk hit hno, List.getElem?_eq_getElem hk]
theorem give_new {r : Int} {w : Bool} {l : List Otc} (hno : ∀ j (hj : j < l.length), j < l.length → ¬ (l[j].runs = r ∧ l[j].wick = w)) : giveL l r w = l ++ [⟨r, w, 1⟩] :=
  giveL_new fun h => hno _ h h (placeO_lt r w l h)
theorem no_step {r : Int} {w : Bool} {l : List Otc} {k : Nat} (hk : k < l.length) (hno : ∀ j (hj : j < l.length), j < k → ¬ (l[j].runs = r ∧ l[j].wick = w)) (h : ¬ (l[k].runs = r ∧ l[k].wick = w)) : ∀ j (hj : j < l.length), j < k + 1 → ¬ (l[j].runs = r ∧ l[j].wick = w) := fun j hj h1 => by
  by_cases e : j = k
  · subst e; exact h
  · exact hno j hj (by omega)
/-- Whie the reference moves a unit: the box lies in block w.heap.size, the row is younger. -/
structure Mv (w W : World) (ov : Value) (out : List Otc) (r : Int) (wk : Bool) : Prop where
  bel : Below w.heap.size w W
  own : OwnSl 3 elOtc 110 (w.heap.size + 1) W ov out
  xk : Blk W w.heap.size 110 #[.int .i64 r, .bool wk, .int .i64 0]
section
variable {w W W' : World} {ov : Value} {out : List Otc} {r : Int} {wk : Bool} {g n c : Nat}
theorem Mv.below (h : Mv w W ov out r wk) (hb : Below W.heap.size W W') : Mv w W' ov out r wk := ⟨h.bel.trans (hb.mono h.bel.size), h.own.below elOtc_good hb, h.xk.below hb h.xk.lt⟩
theorem Mv.gt (h : Mv w W (.slice (some ⟨g, 0, none⟩) n c) out r wk) : w.heap.size < g := (h.own.block g rfl).1
theorem own_at {B k : Nat} (h : OwnSl 3 elOtc 110 B W (.slice (some ⟨g, 0, none⟩) n c) out) (hk : k < out.length) : W.cell? ⟨g, k * 3, none⟩ = some (.int .i64 out[k].runs) ∧ W.cell? ⟨g, k * 3 + 1, none⟩ = some (.bool out[k].wick) ∧ W.cell? ⟨g, k * 3 + 2, none⟩ = some (.int .i64 out[k].wt) ∧ W.frozen? ⟨g, k * 3 + 2, none⟩ = false := by
  obtain ⟨b, o, e, hF, y0, y1, y2⟩ := otc_at (h.sl elOtc_good) hk
  simp only [Option.some.injEq, Addr.mk.injEq, and_true] at e
  obtain ⟨rfl, rfl⟩ := e
  rw [Nat.zero_add] at y0 y1 y2
  obtain ⟨A', c', hv, _⟩ := (h.sl elOtc_good).shape
  injection hv with e1 e2 e3
  subst e2
  obtain ⟨css, h1, h2, h3, h4⟩ := h
  exact ⟨y0, y1, y2, h2.frozenAt _⟩
theorem own_put {B k : Nat} (h : OwnSl 3 elOtc 110 B W (.slice (some ⟨g, 0, none⟩) n c) out) (hk : k < out.length) (x : Int) : OwnSl 3 elOtc 110 B (W.setCell ⟨g, k * 3 + 2, none⟩ (.int .i64 x)) (.slice (some ⟨g, 0, none⟩) n c) (out.set k { out[k] with wt := x }) :=
  OwnG.put h (fun _ _ _ h => h) hk (show 2 < 3 by decide) (.int .i64 x) { out[k] with wt := x } fun c9 w9 h9 => by rw [show c9 = _ from h9]; rfl
theorem Mv.put {k : Nat} (h : Mv w W (.slice (some ⟨g, 0, none⟩) n c) out r wk) (hk : k < out.length) (x : Int) : Mv w (W.setCell ⟨g, k * 3 + 2, none⟩ (.int .i64 x)) (.slice (some ⟨g, 0, none⟩) n c) (out.set k { out[k] with wt := x }) r wk := by
  have hg := h.gt
  exact ⟨h.bel.setCell (by show w.heap.size ≤ g; omega) _, own_put h.own hk x, h.xk.far (by show w.heap.size ≠ g; omega) _⟩
end
def MvPost (w : World) (l : List Otc) (e : Ending) (w' : World) : Prop := ∃ v, e = .returned v ∧ Sl 3 elOtc w' (· < w'.heap.size) v l ∧ Below w.heap.size w w'
theorem Mv.post {w W : World} {ov : Value} {out : List Otc} {B : Nat} (hb : Below w.heap.size w W) (ho : OwnSl 3 elOtc 110 B W ov out) : MvPost w out (.returned ov) W := ⟨ov, rfl, (ho.sl elOtc_good).keep elOtc_good (Same.refl _ _) fun _ h => h.2, hb⟩
theorem own_made (w : World) (ob : Obj) : OwnG 3 elOtc 110 (w.heap.size + 1) ((w.alloc ob).alloc (.cells #[] 110)) (.slice (some ⟨w.heap.size + 1, 0, none⟩) 0 0) NoG [] := by
  have e : (w.alloc ob).heap.size = w.heap.size + 1 := by simp
  have := World.ownsRow_made (base := (w.alloc ob).heap.size) (e := 110) (size := 3) (w.alloc ob) #[] 0 (Nat.le_refl _) (by decide) rfl
  rw [e] at this
  exact ⟨[], rfl, this, by simp, by simp⟩
set_option maxRecDepth 100000 in
set_option maxHeartbeats 4000000 in
theorem r_move (d : List Otc) (v : Value) (i : Nat) (r : Int) (wk : Bool) (w : World) (h : Sl 3 elOtc w (· < w.heap.size) v d) (hi : i < d.length) (hok : ∀ o ∈ d, OkN o) (hl : d.length ≤ 100) :
    Calls Tryz.prog 145 #[v, .int .i64 i, .agg #[.int .i64 r, .bool wk, .int .i64 0]] w (MvPost w (moveL d i r wk)) := by
  obtain ⟨out, hout⟩ : ∃ out, out = takeL d i := ⟨_, rfl⟩
  have hz : moveL d i r wk = giveL out r wk := by rw [hout]; rfl
  rw [hz]
  obtain ⟨z, hzz⟩ : ∃ z, z = giveL out r wk := ⟨_, rfl⟩
  rw [← hzz]
  obtain ⟨A, c, rfl, hc, hc2⟩ := h.shape
  have hb1 : Below w.heap.size w ((w.alloc (.cells #[.int .i64 r, .bool wk, .int .i64 0] 110)).alloc (.cells #[] 110)) := (Below.alloc (Below.refl _ _) (Nat.le_refl _) _).alloc (by simp) _
  have hsl := h.keep elOtc_good (Same.of_below hb1) (G := (· < w.heap.size)) fun _ h => h
  have hxk : Blk ((w.alloc (.cells #[.int .i64 r, .bool wk, .int .i64 0] 110)).alloc (.cells #[] 110)) w.heap.size 110 #[.int .i64 r, .bool wk, .int .i64 0] := (Blk.new w _ _).alloc _
  have hsz : w.heap.size + 1 ≤ ((w.alloc (.cells #[.int .i64 r, .bool wk, .int .i64 0] 110)).alloc (.cells #[] 110)).heap.size := by simp
  have HB1 := Lib.hid hb1
  have HSL := Lib.hid hsl
  have HXK := Lib.hid hxk
  have HSZ := Lib.hid hsz
  have HOM := Lib.hid (own_made w (.cells #[.int .i64 r, .bool wk, .int .i64 0] 110))
  have hdi : out = d.set i { d[i] with wt := d[i].wt - 1 } := by rw [hout, takeL_at hi]
  have hto : ∀ o ∈ out, -1 ≤ o.wt ∧ o.wt ≤ 16 := fun o ho => by
    rw [hdi] at ho
    rcases List.mem_or_eq_of_mem_set ho with h | h
    · have := hok o h; exact ⟨by have := this.w0; omega, this.w16⟩
    · have := hok _ (List.getElem_mem hi)
      rw [h]; exact ⟨by show (-1 : Int) ≤ d[i].wt - 1; have := this.w0; omega, by show d[i].wt - 1 ≤ 16; have := this.w16; omega⟩
  have hol : d.length = out.length := by rw [hdi, List.length_set]
  have hw0 := (hok _ (List.getElem_mem hi)).w0
  have hw1 := (hok _ (List.getElem_mem hi)).w16
  obtain ⟨pt, hpt⟩ : ∃ pt, pt = d[i].wt := ⟨_, rfl⟩
  rw [← hpt] at hw0 hw1 hdi
  have h63 : d.length ≤ maxLen := by simp only [maxLen]; omega
  have h64 : d.length * 24 ≤ 140737488355328 := by omega
  have ei : (i : Int) < (d.length : Int) := by omega
  have hpos : 0 < d.length := by omega
  have HDI := Lib.hid hdi
  have HPT := Lib.hid hpt
  have HTO := Lib.hid hto
  have HOL := Lib.hid hol
  have HZZ := Lib.hid hzz
  have H63 := Lib.hid h63
  clear h hb1 hsl hxk hsz hdi hpt hto hol hzz hz hout hok h63
  go_enter Tryz.func145, Tryz.ntmps145
  go_wp2_with (at_builtin; refine wpList_append_mine rfl (.tmp 9) (.tmp 10) _ rfl E_otc elOtc_good (w.heap.size + 1) ⟨w.heap.size + 1, 0, none⟩ d rfl HOM.out (· < w.heap.size) A d.length c rfl HSL.out elOtc_F elOtc_one H63.out h64 HSZ.out ?_; intro A1 c1 w1 hs1 hb1; obtain ⟨g, rfl⟩ := own_some hs1 hpos; obtain ⟨_, _, p2, pf⟩ := own_at hs1 hi; rw [← HPT.out] at p2; have hm1 : Mv w (w1.setCell ⟨g, i * 3 + 2, none⟩ (.int .i64 (pt - 1))) (.slice (some ⟨g, 0, none⟩) d.length c1) out r wk := (by rw [HDI.out]; exact Mv.put ⟨HB1.out.trans (hb1.mono (by omega)), hs1, HXK.out.below hb1 (by omega)⟩ hi (pt - 1)); have HM1 := Lib.hid hm1; clear hs1 hb1 hm1)
  generalize w1.setCell _ _ = W2 at HM1 ⊢
  clear p2 pf
  have hdm : d.length = out.length := HOL.out
  go_loopw [22] (fun j wr => ∃ k : Nat, k ≤ d.length ∧ j = .int .i64 k ∧ Hid (Mv w wr (.slice (some ⟨g, 0, none⟩) d.length c1) out r wk) ∧ Hid (∀ j (hj : j < out.length), j < k → ¬ (out[j].runs = r ∧ out[j].wick = wk))) (fun j _ => d.length - (intOf j).toNat)
  case atStart => exact ⟨0, Nat.zero_le _, rfl, HM1, Lib.hid fun j _ h => absurd h (Nat.not_lt_zero _)⟩
  case round =>
    obtain ⟨k, hk, rfl, HM, HNO⟩ := hrel
    by_cases hlt : k < d.length
    · have hko : k < out.length := by rw [← HOL.out]; exact hlt
      obtain ⟨y0, y1, y2, _⟩ := own_at HM.out.own hko
      obtain ⟨x0, x1, _, _, _, _⟩ := Blk.three HM.out.xk
      have hbo := HTO.out _ (List.getElem_mem hko)
      have hgv := fun h1 => give_hit (r := r) (w := wk) hko h1 HNO.out
      have hnx := fun h1 => no_step (r := r) (w := wk) hko HNO.out h1
      have hput := fun W (h : Mv w W (.slice (some ⟨g, 0, none⟩) d.length c1) out r wk) x => h.put hko x
      have hat := fun W (h : Mv w W (.slice (some ⟨g, 0, none⟩) d.length c1) out r wk) => own_at h.own hko
      obtain ⟨⟨pr, pw, qt⟩, hp⟩ : ∃ p, p = out[k] := ⟨_, rfl⟩
      rw [← hp] at y0 y1 y2 hbo hgv hnx hput hat
      dsimp only at y0 y1 y2 hbo hgv hnx hput hat
      obtain ⟨hb0, hb1⟩ := hbo
      have HGV := Lib.hid hgv
      have HNX := Lib.hid hnx
      have HPUT := Lib.hid hput
      have HAT := Lib.hid hat
      have ek : (k : Int) < (d.length : Int) := by omega
      clear hgv hnx hput hat hp hko
      rcases boorJ (pr == r) with e1 | e1
      · rcases boorJ (pw == wk) with e2 | e2
        · have h1 : pr = r := by simpa using e1
          have h2 : pw = wk := by simpa using e2
          have HR := Lib.hid (show z = out.set k ⟨pr, pw, qt + 1⟩ from by rw [HZZ.out, HGV.out ⟨h1, h2⟩])
          clear h1 h2 HGV HNX
          go_wp2_with fail
          go_quiet (fail)
          generalize hW : World.drewN wr _ = W3
          have hm3 := HM.out.below (W' := W3) (hW ▸ Below.drewN_ (Below.refl _ _) _)
          obtain ⟨q0, q1, q2, qf⟩ := HAT.out W3 hm3
          have hm4 := HPUT.out W3 hm3 (qt + 1)
          have HM4 := Lib.hid hm4
          clear hW hm3 hm4 y0 y1 y2 x0 x1
          go_wp2
          go_ret
          exact HR.out ▸ Mv.post HM4.out.bel HM4.out.own
        · have h2 : ¬ pw = wk := by simpa using e2
          have HN2 := Lib.hid (HNX.out fun h => h2 h.2)
          clear h2 HGV HNX
          go_wp2_with fail
          go_quiet (fail)
          go_wp2_with fail
          go_roundw
          case rel => exact ⟨k + 1, by omega, by go_num, Lib.hid (HM.out.below (Below.drewN_ (Below.refl _ _) _)), HN2⟩
          case measure => simp [intOf]; omega
      · have h1 : ¬ pr = r := by simpa using e1
        have HN2 := Lib.hid (HNX.out fun h => h1 h.1)
        clear h1 HGV HNX
        go_wp2_with fail
        go_quiet (fail)
        go_wp2_with fail
        go_roundw
        case rel => exact ⟨k + 1, by omega, by go_num, Lib.hid (HM.out.below (Below.drewN_ (Below.refl _ _) _)), HN2⟩
        case measure => simp [intOf]; omega
    · obtain rfl : k = d.length := by omega
      have hno := HNO.out
      rw [HOL.out] at hno
      have HR := Lib.hid (show z = out ++ [⟨r, wk, 1⟩] from by rw [HZZ.out, give_new hno])
      obtain ⟨x0, x1, x2, xf0, xf1, xf2⟩ := Blk.three HM.out.xk
      have hbx : Blk (wr.setCell ⟨w.heap.size, 2, none⟩ (.int .i64 1)) w.heap.size 110 #[.int .i64 r, .bool wk, .int .i64 1] := HM.out.xk.set_ 2 _
      have hos := (Only.refl w.heap.size wr).setCell (p := ⟨w.heap.size, 2, none⟩) (.inl rfl) (.int .i64 1)
      have hown := HM.out.own.grown elOtc_good hos fun b hb e => by
        have := (HM.out.own.block b hb).1
        have := Option.some.inj e
        omega
      have hbel := HM.out.bel.trans (hos.below (Nat.le_refl _) HM.out.bel.size)
      have hsz : w.heap.size + 1 ≤ (wr.setCell ⟨w.heap.size, 2, none⟩ (.int .i64 1)).heap.size := by have := (HM.out.own.block g rfl); simp; omega
      have HBX := Lib.hid hbx
      have hcn := cells_new (wr.setCell ⟨w.heap.size, 2, none⟩ (.int .i64 1)) [.int .i64 r, .bool wk, .int .i64 1] 110 (0, 0)
      rw [show (wr.setCell ⟨w.heap.size, 2, none⟩ (.int .i64 1)).heap.size = wr.heap.size from by simp] at hcn
      have HCN := Lib.hid hcn
      have HOS := Lib.hid hown
      have HBE := Lib.hid hbel
      have hol : out.length ≤ 100 := by rw [← HOL.out]; exact hl
      have HRM := Lib.hid (room1 (k := 100) hol (by omega))
      clear hcn hno hbx hos hown hbel HNO hlt hk hol
      go_wp2_with (at_builtin; refine wpList_append_sl _ rfl (.tmp 54) (.tmp 56) _ rfl E_otc elOtc_good (w.heap.size + 1) (.slice (some ⟨g, 0, none⟩) d.length c1) out rfl (HOS.out.alloc elOtc_good _) ⟨wr.heap.size, 0, none⟩ 1 [.int .i64 r, .bool wk, .int .i64 1] rfl ⟨r, wk, 1⟩ rfl HCN.out (oneCells rfl) rfl HRM.out.1 HRM.out.2 (base1 hsz _) ?_; intro v6 w6 hown6 hg6 hat6; have hb6 := below_own (Below.alloc HBE.out HBE.out.size (.cells #[.int .i64 r, .bool wk, .int .i64 1] 110)) (HOS.out.alloc elOtc_good (.cells #[.int .i64 r, .bool wk, .int .i64 1] 110)) hg6 (Nat.le_succ _) (base1 hsz _); have HO6 := Lib.hid hown6; have HB6 := Lib.hid hb6; clear hown6 hg6 hat6 hb6)
      go_ret
      exact HR.out ▸ Mv.post HB6.out HO6.out
end Go.Proofs.YtdlmmbfnmnglaaaGreatDoor

namespace Go.Proofs.YtdlmmbfnmnglaaaGreatDoor
open Go.RowKit

/-- While the reference shifts: the list that lies is fit to be moved in. -/
structure Sf (w W : World) (v : Value) (l : List Otc) (n : Nat) : Prop where
  bel : Below w.heap.size w W
  sl : Sl 3 elOtc W (· < W.heap.size) v l
  uni : Uni l
  sum : sumK (wAt l) 16 0 = 16
  len : l.length ≤ 16 + n
theorem Sf.ok {w W : World} {v : Value} {l : List Otc} {n : Nat} (h : Sf w W v l n) : ∀ o ∈ l, OkN o := h.uni.small h.sum
theorem Sf.below {w W W' : World} {v : Value} {l : List Otc} {n : Nat} (h : Sf w W v l n) (hb : Below W.heap.size W W') : Sf w W' v l n :=
  ⟨h.bel.trans (hb.mono h.bel.size), h.sl.keep elOtc_good (Same.of_below hb) fun _ hx => Nat.lt_of_lt_of_le hx hb.size, h.uni, h.sum, h.len⟩
theorem fit_uni {l : List Otc} (h : Uni l) (hs : sumK (wAt l) 16 0 = 16) : Fit (wAt l) := ⟨fun j _ => wAt_nonneg (fun o ho => (h.each o ho).2.2) j, hs⟩
theorem Sf.hard {w W W' : World} {v v' : Value} {l : List Otc} {n : Nat} (h : Sf w W v l n) (k : Nat) (hp : ∃ v, Ending.returned v' = .returned v ∧ Sl 3 elOtc W' (· < W'.heap.size) v (hardL k l) ∧ Below W.heap.size W W') : Sf w W' v' (hardL k l) (n + 1) := by
  obtain ⟨v2, e, hs, hb⟩ := hp
  injection e with e
  subst e
  obtain ⟨h1, h2, h3⟩ := hardL_law h.uni k
  exact ⟨h.bel.trans (hb.mono h.bel.size), hs, h1, by rw [h2]; exact ((fit_uni h.uni h.sum).hard k).sum, by have := h.len; omega⟩
theorem Sf.easy {w W W' : World} {v v' : Value} {l : List Otc} {n : Nat} (h : Sf w W v l n) (hp : ∃ v, Ending.returned v' = .returned v ∧ Sl 3 elOtc W' (· < W'.heap.size) v (easyL l) ∧ Below W.heap.size W W') : Sf w W' v' (easyL l) (n + 1) := by
  obtain ⟨v2, e, hs, hb⟩ := hp
  injection e with e
  subst e
  obtain ⟨h1, h2, h3⟩ := easyL_law h.uni
  exact ⟨h.bel.trans (hb.mono h.bel.size), hs, h1, by rw [h2]; exact (fit_uni h.uni h.sum).easy.sum, by have := h.len; omega⟩
theorem Sf.more {w W : World} {v : Value} {l : List Otc} {n m : Nat} (h : Sf w W v l n) (hm : n ≤ m) : Sf w W v l m := ⟨h.bel, h.sl, h.uni, h.sum, by have := h.len; omega⟩
/-- What most and dot hand back lies in the list, or is below 0. -/
theorem most_in (l : List Otc) : mostS l = -1 ∨ ∃ i : Nat, i < l.length ∧ mostS l = i := by
  rcases mostK_at l l.length (Nat.le_refl _) with ⟨h, _⟩ | ⟨i, hi, _, h, _⟩
  · exact .inl h
  · exact .inr ⟨i, hi, h⟩
theorem dot_in (l : List Otc) (t : Bool) : dotS l t = -1 ∨ ∃ i : Nat, i < l.length ∧ dotS l t = i := by
  rcases dotF_at t l 0 with ⟨h, _⟩ | ⟨i, hi, h, _⟩
  · exact .inl h
  · exact .inr ⟨i, hi, by unfold dotS; rw [h]; congr 1; omega⟩
theorem hard_is {l : List Otc} {i : Nat} (h : mostS l = i) (k : Nat) : hardL k l = moveL l i 0 (decide (k % 2 = 1)) := by unfold hardL; rw [h, if_pos (by omega), Int.toNat_natCast]
theorem hard_not {l : List Otc} (h : mostS l = -1) (k : Nat) : hardL k l = l := by unfold hardL; rw [h, if_neg (by omega)]
theorem easy_true {l : List Otc} {i : Nat} (h : dotS l true = i) : easyL l = moveL l i 1 false := by
  have e : easyI l = i := by unfold easyI; rw [if_neg (by omega), h]
  unfold easyL; rw [e, if_pos (by omega), Int.toNat_natCast]
theorem easy_false {l : List Otc} {i : Nat} (h1 : dotS l true = -1) (h : dotS l false = i) : easyL l = moveL l i 1 false := by
  have e : easyI l = i := by unfold easyI; rw [if_pos (by omega), h]
  unfold easyL; rw [e, if_pos (by omega), Int.toNat_natCast]
theorem easy_not {l : List Otc} (h1 : dotS l true = -1) (h : dotS l false = -1) : easyL l = l := by
  have e : easyI l = -1 := by unfold easyI; rw [if_pos (by omega), h]
  unfold easyL; rw [e, if_neg (by omega)]
@[go_sem] theorem build_otcW (b : Bool) (w : World) : (Instr.build 110 #[(1, .bool b)]).run Tryz.prog w = .ok (.agg #[.int .i64 0, .bool b, .int .i64 0]) w := run_build w 110 _ _ (by kernel_rfl)
@[go_sem] theorem build_otcR (x : Int) (w : World) : (Instr.build 110 #[(0, .int .i64 x)]).run Tryz.prog w = .ok (.agg #[.int .i64 x, .bool false, .int .i64 0]) w := run_build w 110 _ _ (by kernel_rfl)
set_option maxRecDepth 100000 in
set_option maxHeartbeats 4000000 in
theorem r_Shift (d : List Otc) (v : Value) (n : Int) (w : World) (h : Sl 3 elOtc w (· < w.heap.size) v d) : Calls Tryz.prog 110 #[v, .int .i64 n] w (OtcPost w (shiftS d n)) := by
  obtain ⟨z, hz⟩ : ∃ z, z = shiftS d n := ⟨_, rfl⟩
  rw [← hz]
  obtain ⟨A, c, rfl, hc, hc2⟩ := h.shape
  have kch := ref_CCheck d _ w h
  have hbad := fun h0 : checkD d ≠ 0 => shift_bad (n := n) h0
  have hfar := fun (h0 : checkD d = 0) => shift_far (n := n) h0
  have hok := fun (h0 : checkD d = 0) (h1 : -12 ≤ n) (h2 : n ≤ 12) => shiftL_norm (n := n) h0 h1 h2
  have hsf : checkD d = 0 → ∀ W, Below w.heap.size w W → Sf w W (.slice A d.length c) (hardLK d 0) 0 := fun h0 W hb =>
    ⟨hb, h.keep elOtc_good (Same.of_below hb) fun _ hx => Nat.lt_of_lt_of_le hx hb.size, uni_of h0, (fit_of h0).sum, by have := (checkD_ok h0).len; show d.length ≤ 16 + 0; omega⟩
  obtain ⟨cd, hcd⟩ : ∃ cd, cd = checkD d := ⟨_, rfl⟩
  rw [← hcd] at kch hbad hfar hok hsf
  have HZ := Lib.hid hz
  have KCH := Lib.hid kch
  clear h hz kch hcd
  go_enter Tryz.func110, Tryz.ntmps110
  by_cases h0 : cd = 0
  · by_cases h1 : n < -12 ∨ 12 < n
    · have hz2 := HZ.out
      rw [hfar h0 h1] at hz2
      have HZ2 := Lib.hid hz2
      have e0 : (cd != 0) = false := by simpa using h0
      clear hz2 hbad hfar hok hsf h0
      rcases h1 with h1 | h1
      · have e1 : decide (n < -12) = true := decide_eq_true h1
        go_wp2_with (go_at_call 115; refine KCH.out.mono ?_; rintro e w1 ⟨rfl, hb1⟩; have HB1 := Lib.hid hb1; clear hb1)
        go_ret2
        exact otc_nil HB1.out HZ2.out
      · have e1 : decide (n < -12) = false := decide_eq_false (by omega)
        have e2 : decide (12 < n) = true := decide_eq_true h1
        go_wp2_with (go_at_call 115; refine KCH.out.mono ?_; rintro e w1 ⟨rfl, hb1⟩; have HB1 := Lib.hid hb1; clear hb1)
        go_ret2
        exact otc_nil HB1.out HZ2.out
    · have hz2 := HZ.out
      rw [← hok h0 (by omega) (by omega)] at hz2
      have HZ2 := Lib.hid hz2
      have HSF := Lib.hid (hsf h0)
      have e0 : (cd != 0) = false := by simpa using h0
      have e1 : decide (n < -12) = false := decide_eq_false (by omega)
      have e2 : decide (12 < n) = false := decide_eq_false (by omega)
      have n0 : -12 ≤ n := by omega
      have n1 : n ≤ 12 := by omega
      clear hz2 hbad hfar hok hsf h0 h1 HZ
      go_wp2_with (go_at_call 115; refine KCH.out.mono ?_; rintro e w1 ⟨rfl, hb1⟩; have HF1 := Lib.hid (HSF.out _ hb1); clear hb1)
      go_loopw [7, 0] (fun i dv wr => ∃ k : Nat, (k = 0 ∨ (k : Int) ≤ n) ∧ i = .int .i64 k ∧ Hid (Sf w wr dv (hardLK d k) k)) (fun i _ _ => 12 - (intOf i).toNat)
      case atStart => exact ⟨0, .inl rfl, rfl, HF1⟩
      case round =>
        obtain ⟨k, hk, rfl, HS⟩ := hrel
        have hk12 : k ≤ 12 := by omega
        by_cases hlt : (k : Int) < n
        · have el : decide ((k : Int) < n) = true := decide_eq_true hlt
          obtain ⟨l, hl⟩ : ∃ l, l = hardLK d k := ⟨_, rfl⟩
          have hnx : hardLK d (k + 1) = hardL k l := by rw [hl]; rfl
          rw [← hl] at HS
          have HNX := Lib.hid hnx
          have km := r_most l _ _ _ HS.out.sl fun _ h => h
          obtain ⟨m, hm⟩ : ∃ m, m = mostS l := ⟨_, rfl⟩
          rw [← hm] at km
          rcases most_in l with h1 | ⟨i, hi, h1⟩
          · obtain rfl : m = -1 := by rw [hm, h1]
            have KM := Lib.hid km
            have HE := Lib.hid (show hardLK d (k + 1) = l from by rw [hnx, hard_not h1])
            clear hm h1 km hnx hl hk
            go_wp2_with (go_at_call 144; refine KM.out.mono ?_; rintro e w2 ⟨rfl, hb2⟩; have HS2 := Lib.hid (HS.out.below hb2); clear hb2)
            go_roundw
            case rel => exact ⟨k + 1, .inr (by omega), by go_num, Lib.hid (by rw [HE.out]; exact HS2.out.more (Nat.le_succ _))⟩
            case measure => simp [intOf]; omega
          · obtain rfl : m = (i : Int) := by rw [hm, h1]
            obtain ⟨b, hb⟩ : ∃ b, b = decide (k % 2 = 1) := ⟨_, rfl⟩
            have em : ((k : Int) % 2 == 1) = b := by
              rw [hb, Bool.eq_iff_iff, beq_iff_eq, decide_eq_true_eq]; omega
            have KM := Lib.hid km
            have hlen := HS.out.len
            have hnew : ∀ W W' v', Below w.heap.size w W → Sf w W v' l k → ∀ v3, Sl 3 elOtc W' (· < W'.heap.size) v3 (moveL l i 0 b) → Below W.heap.size W W' → Sf w W' v3 (hardLK d (k + 1)) (k + 1) := fun W W' v' _ hs v3 h3 hb3 => by
              rw [hnx]; exact hs.hard k ⟨v3, rfl, by rw [hard_is h1, ← hb]; exact h3, hb3⟩
            have HNW := Lib.hid hnew
            have kv := fun W v' (hs : Sf w W v' l k) => r_move l v' i 0 b W hs.sl hi hs.ok (by omega)
            have KV := Lib.hid kv
            clear hm h1 km hnx hl hk hb hnew kv hlen hi
            go_wp2_with (first
              | (go_at_call 144; refine KM.out.mono ?_; rintro e w2 ⟨rfl, hb2⟩; have HS2 := Lib.hid (HS.out.below hb2); clear hb2)
              | (go_at_call 145; refine (KV.out _ _ HS2.out).mono ?_; rintro e w3 ⟨v3, rfl, hs3, hb3⟩; have HS3 := Lib.hid (HNW.out _ w3 _ HS2.out.bel HS2.out v3 hs3 hb3); clear hs3 hb3))
            go_roundw
            case rel => exact ⟨k + 1, .inr (by omega), by go_num, HS3⟩
            case measure => simp [intOf]; omega
        · have el : decide ((k : Int) < n) = false := decide_eq_false hlt
          obtain ⟨d1, hd1⟩ : ∃ d1, d1 = hardLK d n.toNat := ⟨_, rfl⟩
          have hs1 := HS.out.more hk12
          rw [show hardLK d k = d1 from by rw [hd1]; congr 1; omega] at hs1
          have HS1 := Lib.hid hs1
          have hz3 := HZ2.out
          unfold shiftL at hz3
          rw [← hd1] at hz3
          have HZ3 := Lib.hid hz3
          clear hs1 hz3 hd1 HS hlt hk HZ2
          go_wp2
          go_loopw [9, 0] (fun i dv wr => ∃ k : Nat, (k = 0 ∨ (k : Int) ≤ -n) ∧ i = .int .i64 k ∧ Hid (Sf w wr dv (easyLK d1 k) (12 + k))) (fun i _ _ => 12 - (intOf i).toNat)
          case atStart => exact ⟨0, .inl rfl, rfl, HS1⟩
          case round =>
            obtain ⟨k, hk, rfl, HS⟩ := hrel
            have hk12 : k ≤ 12 := by omega
            by_cases hlt : (k : Int) < -n
            · have el : decide ((k : Int) < -n) = true := decide_eq_true hlt
              obtain ⟨l, hl⟩ : ∃ l, l = easyLK d1 k := ⟨_, rfl⟩
              have hnx : easyLK d1 (k + 1) = easyL l := by rw [hl]; rfl
              rw [← hl] at HS
              have kd := fun t W v' (hs : Sf w W v' l (12 + k)) => r_dot l v' t _ W hs.sl fun _ h => h
              have hnew : ∀ i : Nat, easyL l = moveL l i 1 false → ∀ W W' v', Sf w W v' l (12 + k) → ∀ v3, Sl 3 elOtc W' (· < W'.heap.size) v3 (moveL l i 1 false) → Below W.heap.size W W' → Sf w W' v3 (easyLK d1 (k + 1)) (12 + (k + 1)) := fun i he W W' v' hs v3 h3 hb3 => by
                rw [hnx]; exact hs.easy ⟨v3, rfl, by rw [he]; exact h3, hb3⟩
              have kv := fun (i : Nat) (hi : i < l.length) W v' (hs : Sf w W v' l (12 + k)) => r_move l v' i 1 false W hs.sl hi hs.ok (by have := hs.len; omega)
              have hsame : easyL l = l → easyLK d1 (k + 1) = l := fun h => by rw [hnx, h]
              have ht := fun i (h : dotS l true = ((i : Nat) : Int)) => easy_true h
              have hf := fun i (h1 : dotS l true = -1) (h : dotS l false = ((i : Nat) : Int)) => easy_false h1 h
              have hn := fun (h1 : dotS l true = -1) (h : dotS l false = -1) => easy_not h1 h
              have dt := dot_in l true
              have df := dot_in l false
              have kt := kd true
              have kf := kd false
              obtain ⟨mt, hmt⟩ : ∃ m, m = dotS l true := ⟨_, rfl⟩
              obtain ⟨mf, hmf⟩ : ∃ m, m = dotS l false := ⟨_, rfl⟩
              rw [← hmt] at dt kt ht
              rw [← hmf] at df kf
              simp only [← hmt, ← hmf] at hf hn
              have HNW := Lib.hid hnew
              have KV := Lib.hid kv
              have KT := Lib.hid kt
              have KF := Lib.hid kf
              have tokT : True := trivial
              clear hnx hl hk kd hnew kv kt kf hmt hmf
              rcases dt with rfl | ⟨i, hi, rfl⟩
              · rcases df with rfl | ⟨i, hi, rfl⟩
                · have HE := Lib.hid (hsame (hn rfl rfl))
                  clear hsame ht hf hn
                  go_wp2_with (first
                    | (clear tokT; go_at_call 146; refine (KT.out _ _ HS.out).mono ?_; rintro e w2 ⟨rfl, hb2⟩; have HS2 := Lib.hid (HS.out.below hb2); clear hb2; have tokF : True := trivial)
                    | (clear tokF; go_at_call 146; refine (KF.out _ _ HS2.out).mono ?_; rintro e w3 ⟨rfl, hb3⟩; have HS3 := Lib.hid (HS2.out.below hb3); clear hb3))
                  go_roundw
                  case rel => exact ⟨k + 1, .inr (by omega), by go_num, Lib.hid (by rw [HE.out]; exact HS3.out.more (by omega))⟩
                  case measure => simp [intOf]; omega
                · have HE := Lib.hid (hf i rfl rfl)
                  have HI := Lib.hid hi
                  clear hsame ht hf hn hi
                  go_wp2_with (first
                    | (clear tokT; go_at_call 146; refine (KT.out _ _ HS.out).mono ?_; rintro e w2 ⟨rfl, hb2⟩; have HS2 := Lib.hid (HS.out.below hb2); clear hb2; have tokF : True := trivial)
                    | (clear tokF; go_at_call 146; refine (KF.out _ _ HS2.out).mono ?_; rintro e w3 ⟨rfl, hb3⟩; have HS3 := Lib.hid (HS2.out.below hb3); clear hb3; have tokM : True := trivial)
                    | (clear tokM; go_at_call 145; refine (KV.out i HI.out _ _ HS3.out).mono ?_; rintro e w4 ⟨v4, rfl, hs4, hb4⟩; have HS4 := Lib.hid (HNW.out i HE.out _ w4 _ HS3.out v4 hs4 hb4); clear hs4 hb4))
                  go_roundw
                  case rel => exact ⟨k + 1, .inr (by omega), by go_num, HS4⟩
                  case measure => simp [intOf]; omega
              · have HE := Lib.hid (ht i rfl)
                have HI := Lib.hid hi
                clear hsame ht hf hn hi df
                go_wp2_with (first
                  | (clear tokT; go_at_call 146; refine (KT.out _ _ HS.out).mono ?_; rintro e w2 ⟨rfl, hb2⟩; have HS2 := Lib.hid (HS.out.below hb2); clear hb2; have tokM : True := trivial)
                  | (clear tokM; go_at_call 145; refine (KV.out i HI.out _ _ HS2.out).mono ?_; rintro e w4 ⟨v4, rfl, hs4, hb4⟩; have HS4 := Lib.hid (HNW.out i HE.out _ w4 _ HS2.out v4 hs4 hb4); clear hs4 hb4))
                go_roundw
                case rel => exact ⟨k + 1, .inr (by omega), by go_num, HS4⟩
                case measure => simp [intOf]; omega
            · have el : decide ((k : Int) < -n) = false := decide_eq_false hlt
              have hs2 := HS.out
              have hz4 := HZ3.out
              rw [show (-n).toNat = k from by omega] at hz4
              have KN := Lib.hid (hz4 ▸ ref_Norm _ _ _ hs2.sl)
              have HBE := Lib.hid hs2.bel
              clear hs2 hz4 HZ3 HS hlt hk
              go_wp2_with (go_at_call 147; refine KN.out.mono ?_; rintro e w7 ⟨v7, rfl, hs7, hb7⟩; have HS7 := Lib.hid hs7; have HB7 := Lib.hid hb7; clear hs7 hb7)
              go_ret2
              exact ⟨v7, rfl, HS7.out.keep elOtc_good (Same.refl _ _) (fun b hx => ⟨Nat.le_trans HBE.out.size hx.1, hx.2⟩), HBE.out.trans (HB7.out.mono HBE.out.size)⟩
  · have hz2 := HZ.out
    rw [hbad h0] at hz2
    have HZ2 := Lib.hid hz2
    have e0 : (cd != 0) = true := by simp [h0]
    clear hz2 hbad hfar hok hsf h0
    go_wp2_with (go_at_call 115; refine KCH.out.mono ?_; rintro e w1 ⟨rfl, hb1⟩; have HB1 := Lib.hid hb1; clear hb1)
    go_ret2
    exact otc_nil HB1.out (by rw [HZ2.out])
end Go.Proofs.YtdlmmbfnmnglaaaGreatDoor

namespace Go.Proofs.YtdlmmbfnmnglaaaGreatDoor
open Go.RowKit

theorem S_beq (a b : List UInt8) : (a == b) = decide (a = b) := by by_cases h : a = b <;> simp [h]
set_option maxRecDepth 100000 in
theorem bat_clo (x y : List UInt8) (v : Value) (g : Nat) (w : World) (h : w.cell? ⟨g, 0, none⟩ = some (.string (S x))) (hg : g < w.heap.size) :
    Calls Tryz.prog 153 #[.agg #[.string (S y), v], .pointer (some ⟨g, 0, none⟩)] w fun e w' => e = .returned (.bool (decide (y = x))) ∧ Below w.heap.size w w' := by
  have e1 := S_beq y x
  have hc : (w.alloc (.cells #[.string (S y), v] 60)).cell? ⟨g, 0, none⟩ = some (.string (S x)) := (World.cell?_alloc_lt w _ ⟨g, 0, none⟩ hg).trans h
  clear h
  go_enter Tryz.func153, Tryz.ntmps153
  go_wp2
  go_ret
  exact ⟨rfl, (Below.refl _ _).alloc (Nat.le_refl _) _⟩
theorem bat_drop {l : List Bat} {x : List UInt8} {z : Int} {k : Nat} (hk : k < l.length) (h : z = indexF x ((l.drop k).map (·.name)) k) : z = if l[k].name = x then (k : Int) else indexF x ((l.drop (k + 1)).map (·.name)) (k + 1) := by
  rw [drop_get hk, List.map_cons, indexF] at h; exact h
set_option maxRecDepth 100000 in
set_option maxHeartbeats 2000000 in
theorem bat_IndexFunc (l : List Bat) (lv : Value) (x : List UInt8) (g : Nat) (w : World) (hl : Sl 2 elBat w (· < w.heap.size) lv l) (h : w.cell? ⟨g, 0, none⟩ = some (.string (S x))) (hg : g < w.heap.size) :
    Calls Tryz.prog 152 #[lv, .func (.func 153) #[] #[.pointer (some ⟨g, 0, none⟩)]] w fun e w' => e = .returned (.int .i64 (batI l x)) ∧ Below w.heap.size w w' := by
  obtain ⟨z, hz⟩ : ∃ z, z = batI l x := ⟨_, rfl⟩
  rw [← hz]
  obtain ⟨A, c, rfl, hc, hc2⟩ := hl.shape
  have HZ : Hid (z = indexF x ((l.drop 0).map (·.name)) 0) := hz
  have HL := Lib.hid hl
  have HH := Lib.hid h
  have HG := Lib.hid hg
  have HB := Lib.hid (Below.refl w.heap.size w)
  clear hz hl h hg
  go_enter Tryz.func152, Tryz.ntmps152
  go_wp2
  go_loopw [8] (fun i wr => ∃ k : Nat, k ≤ l.length ∧ i = .int .i64 k ∧ Below w.heap.size w wr ∧ Hid (z = indexF x ((l.drop k).map (·.name)) k)) (fun i _ => l.length - (intOf i).toNat)
  case atStart => exact ⟨0, Nat.zero_le _, rfl, HB.out, HZ⟩
  case round =>
    obtain ⟨k, hk, rfl, hb, hzz⟩ := hrel
    have HBB := Lib.hid hb
    have KC := Lib.hid (fun (y : List UInt8) (v : Value) => bat_clo x y v g wr ((hb.cell (p := ⟨g, 0, none⟩) HG.out).trans HH.out) (Nat.lt_of_lt_of_le HG.out hb.size))
    by_cases hlt : k < l.length
    · obtain ⟨b0, o, v, rfl, hbl, yy0, yy1, _, _⟩ := bat_at HL.out hlt
      have y0 := (hb.cell (p := ⟨b0, o + k * 2, none⟩) hbl).trans yy0
      have y1 := (hb.cell (p := ⟨b0, o + k * 2 + 1, none⟩) hbl).trans yy1
      obtain ⟨p, hp⟩ : ∃ p, p = l[k].name := ⟨_, rfl⟩
      have hz2 := bat_drop hlt hzz.out
      rw [← hp] at hz2 y0
      clear hb hzz hp yy0 yy1
      by_cases hin : p = x
      · rw [if_pos hin] at hz2
        have e1 : decide (p = x) = true := decide_eq_true hin
        have HZZ := Lib.hid hz2
        clear hz2 hin
        go_wp2_with (go_at_call 153; refine (KC.out _ _).mono ?_; rintro e w2 ⟨rfl, hb2⟩; rw [e1]; have HB2 := Lib.hid (HBB.out.trans (hb2.mono HBB.out.size)); clear hb2)
        go_ret
        exact ⟨ret_i HZZ.out.symm, HB2.out⟩
      · rw [if_neg hin] at hz2
        have e1 : decide (p = x) = false := decide_eq_false hin
        have HZZ := Lib.hid hz2
        clear hz2 hin
        go_wp2_with (go_at_call 153; refine (KC.out _ _).mono ?_; rintro e w2 ⟨rfl, hb2⟩; rw [e1]; have HB2 := Lib.hid (HBB.out.trans (hb2.mono HBB.out.size)); clear hb2)
        go_roundw
        case rel => exact ⟨k + 1, by omega, by go_num, HB2.out, HZZ⟩
        case measure => simp [intOf]; omega
    · obtain rfl : k = l.length := by omega
      have hz2 := hzz.out
      rw [List.drop_of_length_le (Nat.le_refl _), List.map_nil, indexF] at hz2
      have HZZ := Lib.hid hz2
      clear hb hzz hz2
      go_wp2
      go_ret
      exact ⟨ret_i HZZ.out.symm, HBB.out⟩
set_option maxRecDepth 100000 in
set_option maxHeartbeats 2000000 in
theorem m_Batter (m : Mdl) (bv wv : Value) (x : List UInt8) (w : World) (h : MdlAt w (· < w.heap.size) bv wv m) :
    Calls Tryz.prog 121 #[.agg #[bv, wv], .string (S x)] w fun e w' => e = .returned (.int .i64 (batI m.bats x)) ∧ Below w.heap.size w w' := by
  obtain ⟨z, hz⟩ : ∃ z, z = batI m.bats x := ⟨_, rfl⟩
  have hb1 : Below w.heap.size w (w.alloc (.cells #[bv, wv] 25)) := Below.alloc (Below.refl _ _) (Nat.le_refl _) _
  have hb2 : Below w.heap.size w ((w.alloc (.cells #[bv, wv] 25)).alloc (.cells #[.string (S x)] 9)) := hb1.alloc hb1.size _
  have hm := h.below hb2
  have hk := bat_IndexFunc m.bats _ x (w.heap.size + 1) _ hm.bat (by have := (Blk.new (w.alloc (.cells #[bv, wv] 25)) 9 #[.string (S x)]).cell 0; rw [World.size_alloc] at this; exact this) (by simp)
  rw [← hz] at hk ⊢
  have HK := Lib.hid hk
  have HB := Lib.hid hb2
  clear hz hb1 hb2 hm hk h
  go_enter Tryz.func121, Tryz.ntmps121
  go_wp2_with (go_at_call 152; refine HK.out.mono ?_; rintro e w2 ⟨rfl, hb⟩; have HB2 := Lib.hid (HB.out.trans (hb.mono HB.out.size)); clear hb)
  go_ret
  exact ⟨rfl, HB2.out⟩
set_option maxRecDepth 100000 in
set_option maxHeartbeats 2000000 in
theorem r_Batter (m : Mdl) (bv wv : Value) (x : List UInt8) (w : World) (h : MdlAt w (· < w.heap.size) bv wv m) :
    Calls Tryz.prog 114 #[.agg #[bv, wv], .string (S x)] w fun e w' => e = .returned (.int .i64 (batI m.bats x)) ∧ Below w.heap.size w w' := by
  obtain ⟨z, hz⟩ : ∃ z, z = batI m.bats x := ⟨_, rfl⟩
  rw [← hz]
  have hl := h.bat
  obtain ⟨l, hle⟩ : ∃ l, l = m.bats := ⟨_, rfl⟩
  rw [← hle] at hz hl
  clear h hle
  obtain ⟨vv, hvv⟩ : ∃ vv, vv = bv := ⟨_, rfl⟩
  rw [← hvv] at hl
  obtain ⟨A, c, hA, hc, hc2⟩ := hl.shape
  rw [hA] at hvv hl
  subst hvv
  clear hA
  have HZ : Hid (z = indexF x ((l.drop 0).map (·.name)) 0) := hz
  have HL := Lib.hid hl
  have HB := Lib.hid ((Below.refl w.heap.size w).alloc (Nat.le_refl _) (.cells #[.slice A l.length c, wv] 25))
  clear hz hl
  go_enter Tryz.func114, Tryz.ntmps114
  go_wp2
  go_loopw [10] (fun i wr => ∃ k : Nat, k ≤ l.length ∧ i = .int .i64 k ∧ Below w.heap.size w wr ∧ Hid (z = indexF x ((l.drop k).map (·.name)) k)) (fun i _ => l.length - (intOf i).toNat)
  case atStart => exact ⟨0, Nat.zero_le _, rfl, HB.out, HZ⟩
  case round =>
    obtain ⟨k, hk, rfl, hb, hzz⟩ := hrel
    have HBB := Lib.hid hb
    by_cases hlt : k < l.length
    · obtain ⟨b0, o, v, rfl, hbl, yy0, yy1, hv, _⟩ := bat_at HL.out hlt
      obtain ⟨A2, c2, hve, _, _⟩ := hv.shape
      obtain ⟨n2, hn2⟩ : ∃ n, n = l[k].dist.length := ⟨_, rfl⟩
      rw [← hn2] at hve
      subst hve
      have y0 := (hb.cell (p := ⟨b0, o + k * 2, none⟩) hbl).trans yy0
      have y1 := (hb.cell (p := ⟨b0, o + k * 2 + 1, none⟩) hbl).trans yy1
      obtain ⟨p, hp⟩ : ∃ p, p = l[k].name := ⟨_, rfl⟩
      have hz2 := bat_drop hlt hzz.out
      rw [← hp] at hz2 y0
      have e0 := S_beq p x
      clear hb hzz hp yy0 yy1 hv hn2
      by_cases hin : p = x
      · rw [if_pos hin] at hz2
        rw [decide_eq_true hin] at e0
        have HZZ := Lib.hid hz2
        clear hz2 hin
        go_wp2
        go_ret
        exact ⟨ret_i HZZ.out.symm, HBB.out.alloc HBB.out.size _⟩
      · rw [if_neg hin] at hz2
        rw [decide_eq_false hin] at e0
        have HZZ := Lib.hid hz2
        clear hz2 hin
        go_wp2
        go_roundw
        case rel => exact ⟨k + 1, by omega, by go_num, HBB.out.alloc HBB.out.size _, HZZ⟩
        case measure => simp [intOf]; omega
    · obtain rfl : k = l.length := by omega
      have hz2 := hzz.out
      rw [List.drop_of_length_le (Nat.le_refl _), List.map_nil, indexF] at hz2
      have HZZ := Lib.hid hz2
      clear hb hzz hz2
      go_wp2
      go_ret
      exact ⟨ret_i HZZ.out.symm, HBB.out⟩
set_option maxRecDepth 100000 in
theorem bow_clo (x y : List UInt8) (v : Value) (g : Nat) (w : World) (h : w.cell? ⟨g, 0, none⟩ = some (.string (S x))) (hg : g < w.heap.size) :
    Calls Tryz.prog 155 #[.agg #[.string (S y), v], .pointer (some ⟨g, 0, none⟩)] w fun e w' => e = .returned (.bool (decide (y = x))) ∧ Below w.heap.size w w' := by
  have e1 := S_beq y x
  have hc : (w.alloc (.cells #[.string (S y), v] 62)).cell? ⟨g, 0, none⟩ = some (.string (S x)) := (World.cell?_alloc_lt w _ ⟨g, 0, none⟩ hg).trans h
  clear h
  go_enter Tryz.func155, Tryz.ntmps155
  go_wp2
  go_ret
  exact ⟨rfl, (Below.refl _ _).alloc (Nat.le_refl _) _⟩
theorem bow_drop {l : List Bow} {x : List UInt8} {z : Int} {k : Nat} (hk : k < l.length) (h : z = indexF x ((l.drop k).map (·.name)) k) : z = if l[k].name = x then (k : Int) else indexF x ((l.drop (k + 1)).map (·.name)) (k + 1) := by
  rw [drop_get hk, List.map_cons, indexF] at h; exact h
set_option maxRecDepth 100000 in
set_option maxHeartbeats 2000000 in
theorem bow_IndexFunc (l : List Bow) (lv : Value) (x : List UInt8) (g : Nat) (w : World) (hl : Sl 2 elBow w (· < w.heap.size) lv l) (h : w.cell? ⟨g, 0, none⟩ = some (.string (S x))) (hg : g < w.heap.size) :
    Calls Tryz.prog 154 #[lv, .func (.func 155) #[] #[.pointer (some ⟨g, 0, none⟩)]] w fun e w' => e = .returned (.int .i64 (bowI l x)) ∧ Below w.heap.size w w' := by
  obtain ⟨z, hz⟩ : ∃ z, z = bowI l x := ⟨_, rfl⟩
  rw [← hz]
  obtain ⟨A, c, rfl, hc, hc2⟩ := hl.shape
  have HZ : Hid (z = indexF x ((l.drop 0).map (·.name)) 0) := hz
  have HL := Lib.hid hl
  have HH := Lib.hid h
  have HG := Lib.hid hg
  have HB := Lib.hid (Below.refl w.heap.size w)
  clear hz hl h hg
  go_enter Tryz.func154, Tryz.ntmps154
  go_wp2
  go_loopw [8] (fun i wr => ∃ k : Nat, k ≤ l.length ∧ i = .int .i64 k ∧ Below w.heap.size w wr ∧ Hid (z = indexF x ((l.drop k).map (·.name)) k)) (fun i _ => l.length - (intOf i).toNat)
  case atStart => exact ⟨0, Nat.zero_le _, rfl, HB.out, HZ⟩
  case round =>
    obtain ⟨k, hk, rfl, hb, hzz⟩ := hrel
    have HBB := Lib.hid hb
    have KC := Lib.hid (fun (y : List UInt8) (v : Value) => bow_clo x y v g wr ((hb.cell (p := ⟨g, 0, none⟩) HG.out).trans HH.out) (Nat.lt_of_lt_of_le HG.out hb.size))
    by_cases hlt : k < l.length
    · obtain ⟨b0, o, rfl, hbl, yy0, yy1, _⟩ := bow_at HL.out hlt
      have y0 := (hb.cell (p := ⟨b0, o + k * 2, none⟩) hbl).trans yy0
      have y1 := (hb.cell (p := ⟨b0, o + k * 2 + 1, none⟩) hbl).trans yy1
      obtain ⟨sh, hsh⟩ : ∃ s, s = l[k].shift := ⟨_, rfl⟩
      rw [← hsh] at y1
      obtain ⟨p, hp⟩ : ∃ p, p = l[k].name := ⟨_, rfl⟩
      have hz2 := bow_drop hlt hzz.out
      rw [← hp] at hz2 y0
      clear hb hzz hp yy0 yy1 hsh
      by_cases hin : p = x
      · rw [if_pos hin] at hz2
        have e1 : decide (p = x) = true := decide_eq_true hin
        have HZZ := Lib.hid hz2
        clear hz2 hin
        go_wp2_with (go_at_call 155; refine (KC.out _ _).mono ?_; rintro e w2 ⟨rfl, hb2⟩; rw [e1]; have HB2 := Lib.hid (HBB.out.trans (hb2.mono HBB.out.size)); clear hb2)
        go_ret
        exact ⟨ret_i HZZ.out.symm, HB2.out⟩
      · rw [if_neg hin] at hz2
        have e1 : decide (p = x) = false := decide_eq_false hin
        have HZZ := Lib.hid hz2
        clear hz2 hin
        go_wp2_with (go_at_call 155; refine (KC.out _ _).mono ?_; rintro e w2 ⟨rfl, hb2⟩; rw [e1]; have HB2 := Lib.hid (HBB.out.trans (hb2.mono HBB.out.size)); clear hb2)
        go_roundw
        case rel => exact ⟨k + 1, by omega, by go_num, HB2.out, HZZ⟩
        case measure => simp [intOf]; omega
    · obtain rfl : k = l.length := by omega
      have hz2 := hzz.out
      rw [List.drop_of_length_le (Nat.le_refl _), List.map_nil, indexF] at hz2
      have HZZ := Lib.hid hz2
      clear hb hzz hz2
      go_wp2
      go_ret
      exact ⟨ret_i HZZ.out.symm, HBB.out⟩
set_option maxRecDepth 100000 in
set_option maxHeartbeats 2000000 in
theorem m_Bowler (m : Mdl) (bv wv : Value) (x : List UInt8) (w : World) (h : MdlAt w (· < w.heap.size) bv wv m) :
    Calls Tryz.prog 122 #[.agg #[bv, wv], .string (S x)] w fun e w' => e = .returned (.int .i64 (bowI m.bows x)) ∧ Below w.heap.size w w' := by
  obtain ⟨z, hz⟩ : ∃ z, z = bowI m.bows x := ⟨_, rfl⟩
  have hb1 : Below w.heap.size w (w.alloc (.cells #[bv, wv] 25)) := Below.alloc (Below.refl _ _) (Nat.le_refl _) _
  have hb2 : Below w.heap.size w ((w.alloc (.cells #[bv, wv] 25)).alloc (.cells #[.string (S x)] 9)) := hb1.alloc hb1.size _
  have hm := h.below hb2
  have hk := bow_IndexFunc m.bows _ x (w.heap.size + 1) _ hm.bow (by have := (Blk.new (w.alloc (.cells #[bv, wv] 25)) 9 #[.string (S x)]).cell 0; rw [World.size_alloc] at this; exact this) (by simp)
  rw [← hz] at hk ⊢
  have HK := Lib.hid hk
  have HB := Lib.hid hb2
  clear hz hb1 hb2 hm hk h
  go_enter Tryz.func122, Tryz.ntmps122
  go_wp2_with (go_at_call 154; refine HK.out.mono ?_; rintro e w2 ⟨rfl, hb⟩; have HB2 := Lib.hid (HB.out.trans (hb.mono HB.out.size)); clear hb)
  go_ret
  exact ⟨rfl, HB2.out⟩
set_option maxRecDepth 100000 in
set_option maxHeartbeats 2000000 in
theorem r_Bowler (m : Mdl) (bv wv : Value) (x : List UInt8) (w : World) (h : MdlAt w (· < w.heap.size) bv wv m) :
    Calls Tryz.prog 116 #[.agg #[bv, wv], .string (S x)] w fun e w' => e = .returned (.int .i64 (bowI m.bows x)) ∧ Below w.heap.size w w' := by
  obtain ⟨z, hz⟩ : ∃ z, z = bowI m.bows x := ⟨_, rfl⟩
  rw [← hz]
  have hl := h.bow
  obtain ⟨l, hle⟩ : ∃ l, l = m.bows := ⟨_, rfl⟩
  rw [← hle] at hz hl
  clear h hle
  obtain ⟨vv, hvv⟩ : ∃ vv, vv = wv := ⟨_, rfl⟩
  rw [← hvv] at hl
  obtain ⟨A, c, hA, hc, hc2⟩ := hl.shape
  rw [hA] at hvv hl
  subst hvv
  clear hA
  have HZ : Hid (z = indexF x ((l.drop 0).map (·.name)) 0) := hz
  have HL := Lib.hid hl
  have HB := Lib.hid ((Below.refl w.heap.size w).alloc (Nat.le_refl _) (.cells #[bv, .slice A l.length c] 25))
  clear hz hl
  go_enter Tryz.func116, Tryz.ntmps116
  go_wp2
  go_loopw [10] (fun i wr => ∃ k : Nat, k ≤ l.length ∧ i = .int .i64 k ∧ Below w.heap.size w wr ∧ Hid (z = indexF x ((l.drop k).map (·.name)) k)) (fun i _ => l.length - (intOf i).toNat)
  case atStart => exact ⟨0, Nat.zero_le _, rfl, HB.out, HZ⟩
  case round =>
    obtain ⟨k, hk, rfl, hb, hzz⟩ := hrel
    have HBB := Lib.hid hb
    by_cases hlt : k < l.length
    · obtain ⟨b0, o, rfl, hbl, yy0, yy1, _⟩ := bow_at HL.out hlt
      have y0 := (hb.cell (p := ⟨b0, o + k * 2, none⟩) hbl).trans yy0
      have y1 := (hb.cell (p := ⟨b0, o + k * 2 + 1, none⟩) hbl).trans yy1
      obtain ⟨sh, hsh⟩ : ∃ s, s = l[k].shift := ⟨_, rfl⟩
      rw [← hsh] at y1
      obtain ⟨p, hp⟩ : ∃ p, p = l[k].name := ⟨_, rfl⟩
      have hz2 := bow_drop hlt hzz.out
      rw [← hp] at hz2 y0
      have e0 := S_beq p x
      clear hb hzz hp yy0 yy1 hsh
      by_cases hin : p = x
      · rw [if_pos hin] at hz2
        rw [decide_eq_true hin] at e0
        have HZZ := Lib.hid hz2
        clear hz2 hin
        go_wp2
        go_ret
        exact ⟨ret_i HZZ.out.symm, HBB.out.alloc HBB.out.size _⟩
      · rw [if_neg hin] at hz2
        rw [decide_eq_false hin] at e0
        have HZZ := Lib.hid hz2
        clear hz2 hin
        go_wp2
        go_roundw
        case rel => exact ⟨k + 1, by omega, by go_num, HBB.out.alloc HBB.out.size _, HZZ⟩
        case measure => simp [intOf]; omega
    · obtain rfl : k = l.length := by omega
      have hz2 := hzz.out
      rw [List.drop_of_length_le (Nat.le_refl _), List.map_nil, indexF] at hz2
      have HZZ := Lib.hid hz2
      clear hb hzz hz2
      go_wp2
      go_ret
      exact ⟨ret_i HZZ.out.symm, HBB.out⟩
end Go.Proofs.YtdlmmbfnmnglaaaGreatDoor

namespace Go.Proofs.YtdlmmbfnmnglaaaGreatDoor
open Go.RowKit

set_option maxRecDepth 100000 in
set_option maxHeartbeats 4000000 in
theorem ref_Name (s : ByteArray) (w : World) (hs : s.size ≤ maxLen) :
    Calls Tryz.prog 113 #[.string s] w fun e w' => e = .returned (.bool (nameS s.data.toList)) ∧ w' = w := by
  unfold maxLen at hs
  have hb : ∀ b, (nameS s.data.toList = b) → nameS s.data.toList = b := fun _ h => h
  by_cases hz : s.size = 0
  · have e0 : s.toList.isEmpty = true := by rw [ByteArray.toList_eq, List.isEmpty_iff, ← List.length_eq_zero_iff]; simpa using hz
    have hn : nameS s.data.toList = false := by rw [Bool.eq_false_iff]; intro h; have := (nameS_eq _).1 h; have h1 := this.2.1; simp at h1; omega
    have HN := Lib.hid hn
    clear hn hb hz
    go_enter Tryz.func113, Tryz.ntmps113
    go_wp2
    go_ret
    exact ⟨ret_b HN.out.symm, rfl⟩
  · have e0 : s.toList.isEmpty = false := by rw [Bool.eq_false_iff]; intro h; rw [ByteArray.toList_eq, List.isEmpty_iff, ← List.length_eq_zero_iff] at h; exact hz (by simpa using h)
    by_cases h16 : (16 : Int) < (s.size : Int)
    · have hn : nameS s.data.toList = false := by rw [Bool.eq_false_iff]; intro h; have := (nameS_eq _).1 h; have h1 := this.2.2; simp at h1; omega
      have HN := Lib.hid hn
      clear hn hb hz
      go_enter Tryz.func113, Tryz.ntmps113
      go_wp2
      go_ret
      exact ⟨ret_b HN.out.symm, rfl⟩
    · have h16' : (s.size : Int) ≤ 16 := by omega
      have HZ := Lib.hid hz
      clear hb hz
      go_enter Tryz.func113, Tryz.ntmps113
      go_wp2
      go_loop [3] (fun i => ∃ k : Nat, k ≤ s.size ∧ i = .int .i64 k ∧ Hid (∀ j, j < k → nameOk s.data.toList j = true)) (fun i => s.size - (intOf i).toNat)
      case atStart => exact ⟨0, Nat.zero_le _, rfl, fun j hj => absurd hj (by omega)⟩
      case round =>
        obtain ⟨k, hk, rfl, hall⟩ := hrel
        by_cases hlt : k < s.size
        · have hbad := Lib.hid (nameS_bad s k hlt)
          have hat := Lib.hid (nameOk_at s k hlt)
          rcases Nat.eq_zero_or_pos k with h0 | h0
          · have hzk : ((k : Int) == 0) = true := by rw [h0]; rfl
            have h0' := Lib.hid h0
            clear h0
            rcases (show (s[k].toNat : Int) < 65 ∨ (65 ≤ (s[k].toNat : Int) ∧ (s[k].toNat : Int) ≤ 90) ∨ 90 < (s[k].toNat : Int) from by omega) with hc | ⟨hc, hc'⟩ | hc
            all_goals ((first | (have e1 : decide ((65 : Int) ≤ (s[k].toNat : Int)) = true := decide_eq_true (by omega)) | (have e1 : decide ((65 : Int) ≤ (s[k].toNat : Int)) = false := decide_eq_false (by omega))); (first | (have e2 : decide ((s[k].toNat : Int) ≤ (90 : Int)) = true := decide_eq_true (by omega)) | (have e2 : decide ((s[k].toNat : Int) ≤ (90 : Int)) = false := decide_eq_false (by omega))); go_wp2)
            all_goals first
              | (go_ret; exact ⟨ret_b (hbad.out (by rw [hat.out, if_pos h0'.out, letterB_iff, decide_eq_false_iff_not]; omega)).symm, rfl⟩)
              | (go_round
                 case rel => exact ⟨k + 1, by omega, by go_num, nameOk_next hall hat.out (by rw [if_pos h0'.out, letterB_iff, decide_eq_true_eq]; omega)⟩
                 case measure => simp [intOf]; omega)
          · have hzk : ((k : Int) == 0) = false := by simp; omega
            rcases (show (s[k].toNat : Int) < 45 ∨ (45 ≤ (s[k].toNat : Int) ∧ (s[k].toNat : Int) ≤ 45) ∨ (46 ≤ (s[k].toNat : Int) ∧ (s[k].toNat : Int) ≤ 47) ∨ (48 ≤ (s[k].toNat : Int) ∧ (s[k].toNat : Int) ≤ 57) ∨ (58 ≤ (s[k].toNat : Int) ∧ (s[k].toNat : Int) ≤ 64) ∨ (65 ≤ (s[k].toNat : Int) ∧ (s[k].toNat : Int) ≤ 90) ∨ (91 ≤ (s[k].toNat : Int) ∧ (s[k].toNat : Int) ≤ 94) ∨ (95 ≤ (s[k].toNat : Int) ∧ (s[k].toNat : Int) ≤ 95) ∨ 95 < (s[k].toNat : Int) from by omega) with hc | ⟨hc, hc'⟩ | ⟨hc, hc'⟩ | ⟨hc, hc'⟩ | ⟨hc, hc'⟩ | ⟨hc, hc'⟩ | ⟨hc, hc'⟩ | ⟨hc, hc'⟩ | hc
            all_goals ((first | (have e1 : decide ((65 : Int) ≤ (s[k].toNat : Int)) = true := decide_eq_true (by omega)) | (have e1 : decide ((65 : Int) ≤ (s[k].toNat : Int)) = false := decide_eq_false (by omega))); (first | (have e2 : decide ((s[k].toNat : Int) ≤ (90 : Int)) = true := decide_eq_true (by omega)) | (have e2 : decide ((s[k].toNat : Int) ≤ (90 : Int)) = false := decide_eq_false (by omega))); (first | (have e3 : ((s[k].toNat : Int) != (95 : Int)) = true := by rw [bne_iff_ne]; omega) | (have e3 : ((s[k].toNat : Int) != (95 : Int)) = false := by rw [bne_eq_false_iff_eq]; omega)); (first | (have e4 : ((s[k].toNat : Int) != (45 : Int)) = true := by rw [bne_iff_ne]; omega) | (have e4 : ((s[k].toNat : Int) != (45 : Int)) = false := by rw [bne_eq_false_iff_eq]; omega)); (first | (have e5 : decide ((s[k].toNat : Int) < (48 : Int)) = true := decide_eq_true (by omega)) | (have e5 : decide ((s[k].toNat : Int) < (48 : Int)) = false := decide_eq_false (by omega))); (first | (have e6 : decide ((57 : Int) < (s[k].toNat : Int)) = true := decide_eq_true (by omega)) | (have e6 : decide ((57 : Int) < (s[k].toNat : Int)) = false := decide_eq_false (by omega))); go_wp2)
            all_goals first
              | (go_ret; exact ⟨ret_b (hbad.out (by rw [hat.out, if_neg (by omega), tailB_iff, decide_eq_false_iff_not]; omega)).symm, rfl⟩)
              | (go_round
                 case rel => exact ⟨k + 1, by omega, by go_num, nameOk_next hall hat.out (by rw [if_neg (by omega), tailB_iff, decide_eq_true_eq]; omega)⟩
                 case measure => simp [intOf]; omega)

        · obtain rfl : k = s.size := by omega
          have hn : nameS s.data.toList = true := by
            rw [nameS_end s hall.out]
            have := HZ.out
            simp; omega
          have HN := Lib.hid hn
          clear hn
          go_wp2
          go_ret
          exact ⟨ret_b HN.out.symm, rfl⟩

end Go.Proofs.YtdlmmbfnmnglaaaGreatDoor
