/- Rows of the call's own: appended whole onto an empty one, stored into. No program is named here. -/
import Derived.Test.YtfnfbojaiikigaaGreatDoorR
import Derived.Deep.AppendSrc
import Derived.Deep.Upon
set_option linter.unusedSimpArgs false
set_option linter.unusedVariables false
namespace Go.Proofs.YtfnfbojaiikigaaGreatDoor
open Go.RowKit

theorem flat_lenG {css : List (List Value)} {size : Nat} (h : ∀ cs ∈ css, cs.length = size) : css.flatten.length = css.length * size := by
  induction css with
  | nil => simp
  | cons x css ih => rw [List.flatten_cons, List.length_append, ih (fun cs hc => h cs (by simp [hc])), h x (by simp), List.length_cons, Nat.succ_mul]; omega

/-- The cells of a slice that is not empty. -/
theorem Sl.rowsG {α : Type} {size : Nat} {R : World → (Nat → Prop) → List Value → α → Prop} {w : World} {F : Nat → Prop} {b o n c : Nat} {l : List α} (h : Sl size R w F (.slice (some ⟨b, o, none⟩) n c) l) (hs : 0 < size) :
    ∃ css : List (List Value), css.length = l.length ∧ (∀ cs ∈ css, cs.length = size) ∧ (∀ j u, css.flatten[j]? = some u → w.cell? ⟨b, o + j, none⟩ = some u) ∧
      (∀ (i : Nat) (a : α) (cs : List Value), l[i]? = some a → css[i]? = some cs → R w F cs a) := by
  have key : ∀ m, m ≤ l.length → ∃ css : List (List Value), css.length = m ∧ (∀ cs ∈ css, cs.length = size) ∧ (∀ j u, css.flatten[j]? = some u → w.cell? ⟨b, o + j, none⟩ = some u) ∧
      (∀ (i : Nat) (a : α) (cs : List Value), l[i]? = some a → css[i]? = some cs → R w F cs a) := by
    intro m
    induction m with
    | zero => intro _; exact ⟨[], rfl, by simp, by simp, by simp⟩
    | succ m ih =>
      intro hm
      obtain ⟨css, h1, h2, h3, h4⟩ := ih (by omega)
      obtain ⟨b', o', cs, e, hF, hcl, hcc, hel⟩ := h.at (k := m) (by omega)
      simp only [Option.some.injEq, Addr.mk.injEq] at e
      obtain ⟨rfl, rfl, _⟩ := e
      have hfl : css.flatten.length = m * size := by
        rw [flat_lenG h2, h1]
      refine ⟨css ++ [cs], by simp [h1], ?_, ?_, ?_⟩
      · intro c hc
        rcases List.mem_append.1 hc with hc | hc
        · exact h2 c hc
        · simp at hc; subst hc; exact hcl
      · intro j u hu
        rw [List.flatten_append, List.flatten_singleton] at hu
        by_cases hj : j < css.flatten.length
        · rw [List.getElem?_append_left hj] at hu; exact h3 j u hu
        · rw [List.getElem?_append_right (by omega)] at hu
          have := hcc (j - css.flatten.length) u hu
          rw [hfl] at this hj
          rw [show o + m * size + (j - m * size) = o + j from by omega] at this
          exact this
      · intro i a c hi hc
        by_cases hil : i < css.length
        · rw [List.getElem?_append_left hil] at hc; exact h4 i a c hi hc
        · have hi2 := (List.getElem?_eq_some_iff.1 hc).1
          have : i = m := by simp at hi2; omega
          subst this
          rw [List.getElem?_append_right (by omega)] at hc
          rw [h1, Nat.sub_self] at hc
          simp at hc; subst hc
          rw [List.getElem?_eq_getElem (by omega)] at hi
          obtain rfl := Option.some.inj hi
          exact hel
  exact key l.length (Nat.le_refl _)

/-- append of a whole slice onto an empty row just made: the row is the call's own. -/
theorem step_append_mine {P : Program} {ops : Array Oper} {o : Oper} {a : Act} {w : World} {K : Act → World → Prop} {Q : Exit → Act → World → Prop} {E : Prop} (hgd : o.guard = none) (s x : Operand) (t : TypeId)
    (ho : o.op = .call { callee := .builtin .append, args := #[s, x], argTypes := #[t, t] })
    {e : TypeId} {size bytes : Nat} (hE : ElemOf P t e size bytes) {α : Type} {R : World → (Nat → Prop) → List Value → α → Prop} (hR : Good R)
    (base : Nat) (ad0 : Addr) (l' : List α) (hs : a.eval s = .slice (some ad0) 0 0) (hown : OwnG size R e base w (.slice (some ad0) 0 0) NoG [])
    (F : Nat → Prop) (A : Option Addr) (n c : Nat) (hx : a.eval x = .slice A n c) (hsl : Sl size R w F (.slice A n c) l')
    (hRF : ∀ w G G' cs x, R w G cs x → R w G' cs x)
    (h1 : ∀ w F cs x, R w F cs x → ∀ u ∈ cs, u.oneCell' = true)
    (h63 : l'.length ≤ maxLen) (hbytes : l'.length * bytes ≤ 140737488355328) (hbase : base ≤ w.heap.size)
    (h : ∀ A' c' w', OwnSl size R e base w' (.slice A' n c') l' → Below base w w' → K (a.put o.dst (.slice A' n c')) w') :
    if Region.wanted o (yielded ops a.tmps) = true then Oper.wp P o a w K Q else E := by
  have hw : Region.wanted o (yielded ops a.tmps) = true := by simp [Region.wanted, hgd]
  rw [if_pos hw]
  have hown0 := hown
  obtain ⟨i, z, e1, e2, e3, e4, e5, e6, e7⟩ := hE
  obtain ⟨A', c', hv, hlc, hcm, hA⟩ := hsl
  injection hv with hv1 hv2 hv3
  subst hv2; subst hv3
  by_cases h0 : 0 < l'.length
  · obtain ⟨b, o', hab, hFb, _⟩ := hA h0
    obtain ⟨css', hl', hsz', hcell', hel''⟩ := Sl.rowsG (l := l') (b := b) (o := o') (n := l'.length) (c := c) ⟨A', c, by rw [← hab], hlc, hcm, hA⟩ e7
    rw [hv1, hab] at hx
    obtain ⟨css, hlen, ho', hsz, hel'⟩ := hown
    have hcss : css = [] := List.eq_nil_of_length_eq_zero (by simpa using hlen)
    subst hcss
    obtain ⟨v', w', hr, h2, h3, _, h4⟩ := run_append_own_at (P := P) w base t o.type e i z size bytes e1 e2 e3 e4 e5 e6 e7 (.slice (some ad0) 0 0) 0 [] ho' ⟨b, o', none⟩ l'.length c css'.flatten (by rw [flat_lenG hsz', hl'])
      (fun j u hu => by rw [show (⟨b, o', none⟩ : Addr).add j = ⟨b, o' + j, none⟩ from Addr.add_lit b o' j]; exact hcell' j u hu) (fun u hu => by
        obtain ⟨cs, hc, hu'⟩ := List.mem_flatten.1 hu
        obtain ⟨k, hk⟩ := List.mem_iff_getElem?.1 hc
        have hil : k < l'.length := by have := (List.getElem?_eq_some_iff.1 hk).1; omega
        exact h1 w F cs _ (hel'' k l'[k] cs (List.getElem?_eq_getElem hil) hk) u hu') (by omega) (by simpa using hbytes) hbase
    have hnew : OwnSl size R e base w' v' l' := by
      refine ⟨css', hl', by simpa using h2, hsz', fun k x cs hk hc => ?_⟩
      exact hR.keep (G := NoG) (hRF _ F NoG _ _ (hel'' k x cs hk hc)) (fun _ h => h.elim) fun _ h => h
    have hsl' := hnew.sl hR
    obtain ⟨A2, c2, hv2, _⟩ := hsl'.shape
    subst hv2
    unfold Oper.wp execOp
    simp only [ho, resolve, invoke, builtin, Sem.run_bind, Sem.run_pure, Result.andThen_ok, List.map_toArray, List.map_cons, List.map_nil, hs, hx, hr]
    exact h _ _ _ hnew (below_own (Below.refl base w) hown0 h3 (Nat.le_refl _) hbase)
  · have hn : l' = [] := List.eq_nil_of_length_eq_zero (by omega)
    subst hn
    have hr : (Builtin.append_ #[t, t] o.type #[.slice (some ad0) 0 0, .slice A 0 c]).run P w = .ok (.slice (some ad0) 0 0) w := by
      cases A with
      | none => exact run_append_nothing w t t o.type e i e1 e2 (some ad0) 0 0 (Nat.le_refl _) _ (Src.ofNil w e1 c)
      | some ad => exact run_append_nothing w t t o.type e i e1 e2 (some ad0) 0 0 (Nat.le_refl _) _ (Src.ofSlice w e1 ad 0 c [] (by simp) (by simp) (by simp))
    simp only [List.length_nil] at hx h hr ⊢
    unfold Oper.wp execOp
    simp only [ho, resolve, invoke, builtin, Sem.run_bind, Sem.run_pure, Result.andThen_ok, List.map_toArray, List.map_cons, List.map_nil, hs, hx, hr]
    exact h (some ad0) 0 w hown0 (Below.refl _ _)
theorem flat_setG {α : Type} {size : Nat} : ∀ (css : List (List α)) (i j : Nat) (u : α), (∀ cs ∈ css, cs.length = size) → j < size → ∀ (hi : i < css.length), (css.set i (css[i].set j u)).flatten = css.flatten.set (i * size + j) u
  | cs :: css, 0, j, u, h, hj, _ => by
    have h0 := h cs (by simp)
    simp only [List.set_cons_zero, List.getElem_cons_zero, List.flatten_cons, Nat.zero_mul, Nat.zero_add]
    rw [List.set_append_left _ _ (by omega)]
  | cs :: css, i + 1, j, u, h, hj, hi => by
    have h0 := h cs (by simp)
    have ih := flat_setG css i j u (fun c hc => h c (by simp [hc])) hj (by simpa using hi)
    simp only [List.set_cons_succ, List.getElem_cons_succ, List.flatten_cons, ih]
    rw [List.set_append_right _ _ (by rw [h0, Nat.succ_mul]; omega), h0]
    congr 2
    rw [Nat.succ_mul]; omega
/-- A store into an element of a row of the call's own. -/
theorem OwnG.put {α : Type} {size e base : Nat} {R : World → (Nat → Prop) → List Value → α → Prop} {G : Nat → Prop} {w : World} {g n cap : Nat} {l : List α} (h : OwnG size R e base w (.slice (some ⟨g, 0, none⟩) n cap) G l)
    (hRw : ∀ w' cs a, R w G cs a → R w' G cs a) {i j : Nat} (hi : i < l.length) (hj : j < size) (u : Value) (a' : α) (hset : ∀ cs w', R w G cs l[i] → R w' G (cs.set j u) a') :
    OwnG size R e base (w.setCell ⟨g, i * size + j, none⟩ u) (.slice (some ⟨g, 0, none⟩) n cap) G (l.set i a') := by
  obtain ⟨css, hlen, ho, hsz, hel⟩ := h
  have hn : n = l.length := by
    rcases ho.2 with ⟨hv, _⟩ | ⟨g', cap', cur, hv, _⟩
    · cases hv
    · injection hv
  subst hn
  have hic : i < css.length := by omega
  have hst := (ho.stored (i * size + j) u).1
  rw [← flat_setG css i j u hsz hj hic] at hst
  refine ⟨css.set i (css[i].set j u), by simp [hlen], by simpa using hst, ?_, ?_⟩
  · intro cs hc
    rcases List.mem_or_eq_of_mem_set hc with h | h
    · exact hsz cs h
    · rw [h, List.length_set]; exact hsz _ (List.getElem_mem hic)
  · intro k a cs hk hc
    by_cases hki : k = i
    · subst hki
      rw [List.getElem?_set_self hi] at hk
      rw [List.getElem?_set_self hic] at hc
      obtain rfl := Option.some.inj hk
      obtain rfl := Option.some.inj hc
      exact hset _ _ (hel k _ _ (List.getElem?_eq_getElem hi) (List.getElem?_eq_getElem hic))
    · rw [List.getElem?_set_ne (fun e => hki e.symm)] at hk hc
      exact hRw _ _ _ (hel k a cs hk hc)
/-- The same at a list of operations. -/
theorem wpList_append_mine {P : Program} {ops : Array Oper} {rest : List Oper} {o : Oper} {a : Act} {w : World} {Q : Exit → Act → World → Prop} (hgd : o.guard = none) (s x : Operand) (t : TypeId)
    (ho : o.op = .call { callee := .builtin .append, args := #[s, x], argTypes := #[t, t] })
    {e : TypeId} {size bytes : Nat} (hE : ElemOf P t e size bytes) {α : Type} {R : World → (Nat → Prop) → List Value → α → Prop} (hR : Good R)
    (base : Nat) (ad0 : Addr) (l' : List α) (hs : a.eval s = .slice (some ad0) 0 0) (hown : OwnG size R e base w (.slice (some ad0) 0 0) NoG [])
    (F : Nat → Prop) (A : Option Addr) (n c : Nat) (hx : a.eval x = .slice A n c) (hsl : Sl size R w F (.slice A n c) l')
    (hRF : ∀ w G G' cs x, R w G cs x → R w G' cs x)
    (h1 : ∀ w F cs x, R w F cs x → ∀ u ∈ cs, u.oneCell' = true)
    (h63 : l'.length ≤ maxLen) (hbytes : l'.length * bytes ≤ 140737488355328) (hbase : base ≤ w.heap.size)
    (h : ∀ A' c' w', OwnSl size R e base w' (.slice A' n c') l' → Below base w w' → wpList P ops Q rest (a.put o.dst (.slice A' n c')) w') : wpList P ops Q (o :: rest) a w := by
  refine wpList_plain hgd fun K hK => ?_
  have := step_append_mine (ops := ops) (K := K) (Q := Q) (E := True) hgd s x t ho hE hR base ad0 l' hs hown F A n c hx hsl hRF h1 h63 hbytes hbase fun A' c' w' h2 h3 => hK _ _ (h A' c' w' h2 h3)
  rwa [if_pos (by simp [Region.wanted, hgd])] at this
end Go.Proofs.YtfnfbojaiikigaaGreatDoor
