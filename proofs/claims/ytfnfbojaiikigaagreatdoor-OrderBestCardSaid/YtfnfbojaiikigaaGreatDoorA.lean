/- append of a whole slice onto a row of the call's own; the contract of slices.Clone at fields; the contract of text.At. -/
import Derived.Test.YtfnfbojaiikigaaGreatDoorC
set_option linter.unusedSimpArgs false
set_option linter.unusedVariables false
namespace Go.Proofs.YtfnfbojaiikigaaGreatDoor
open Go.RowKit

theorem flat_len {css : List (List Value)} {size : Nat} (h : ∀ cs ∈ css, cs.length = size) : css.flatten.length = css.length * size := by
  induction css with
  | nil => simp
  | cons x css ih => rw [List.flatten_cons, List.length_append, ih (fun cs hc => h cs (by simp [hc])), h x (by simp), List.length_cons, Nat.succ_mul]; omega

/-- The cells of a slice that is not empty. -/
theorem Sl.rows {α : Type} {size : Nat} {R : World → (Nat → Prop) → List Value → α → Prop} {w : World} {F : Nat → Prop} {b o n c : Nat} {l : List α} (h : Sl size R w F (.slice (some ⟨b, o, none⟩) n c) l) (hs : 0 < size) :
    ∃ css : List (List Value), css.length = l.length ∧ (∀ cs ∈ css, cs.length = size) ∧ (∀ j u, css.flatten[j]? = some u → w.cell? ⟨b, o + j, none⟩ = some u) ∧
      (∀ (i : Nat) (a : α) (cs : List Value), l[i]? = some a → css[i]? = some cs → R w F cs a) := by
  have key : ∀ m, m ≤ l.length → ∃ css : List (List Value), css.length = m ∧ (∀ cs ∈ css, cs.length = size) ∧ (∀ j u, css.flatten[j]? = some u → w.cell? ⟨b, o + j, none⟩ = some u) ∧
      (∀ (i : Nat) (a : α) (cs : List Value), l[i]? = some a → css[i]? = some cs → R w F cs a) := by
    intro m
    induction m with
    | zero => intro _; exact ⟨[], rfl, by simp, by simp, by simp⟩
    | succ m ih =>
      intro hm
      obtain ⟨css, h1, h2, h3, h4⟩ := ih (by omega)
      obtain ⟨b', o', cs, e, hF, hcl, hcc, hel⟩ := h.at (k := m) (by omega)
      simp only [Option.some.injEq, Addr.mk.injEq] at e
      obtain ⟨rfl, rfl, _⟩ := e
      have hfl : css.flatten.length = m * size := by
        rw [flat_len h2, h1]
      refine ⟨css ++ [cs], by simp [h1], ?_, ?_, ?_⟩
      · intro c hc
        rcases List.mem_append.1 hc with hc | hc
        · exact h2 c hc
        · simp at hc; subst hc; exact hcl
      · intro j u hu
        rw [List.flatten_append, List.flatten_singleton] at hu
        by_cases hj : j < css.flatten.length
        · rw [List.getElem?_append_left hj] at hu; exact h3 j u hu
        · rw [List.getElem?_append_right (by omega)] at hu
          have := hcc (j - css.flatten.length) u hu
          rw [hfl] at this hj
          rw [show o + m * size + (j - m * size) = o + j from by omega] at this
          exact this
      · intro i a c hi hc
        by_cases hil : i < css.length
        · rw [List.getElem?_append_left hil] at hc; exact h4 i a c hi hc
        · have hi2 := (List.getElem?_eq_some_iff.1 hc).1
          have : i = m := by simp at hi2; omega
          subst this
          rw [List.getElem?_append_right (by omega)] at hc
          rw [h1, Nat.sub_self] at hc
          simp at hc; subst hc
          rw [List.getElem?_eq_getElem (by omega)] at hi
          obtain rfl := Option.some.inj hi
          exact hel
  exact key l.length (Nat.le_refl _)

/-- append of all elements of a slice that is not nil. -/
theorem wpList_append_all {P : Program} (w : World) {ops : Array Oper} {rest : List Oper} {o : Oper} {a : Act} {Q : Exit → Act → World → Prop} (hgd : o.guard = none) (s x : Operand) (t : TypeId)
    (ho : o.op = .call { callee := .builtin .append, args := #[s, x], argTypes := #[t, t] })
    {e : TypeId} {size bytes : Nat} (hE : ElemOf P t e size bytes) {α : Type} {R : World → (Nat → Prop) → List Value → α → Prop} (hR : Good R)
    (base : Nat) (v : Value) (G : Nat → Prop) (l l' : List α) (hs : a.eval s = v) (hown : OwnG size R e base w v G l)
    (F : Nat → Prop) (ad : Addr) (n c : Nat) (hx : a.eval x = .slice (some ad) n c) (hsl : Sl size R w F (.slice (some ad) n c) l') (hF : ∀ b, F b → G b)
    (h1 : ∀ w F cs x, R w F cs x → ∀ u ∈ cs, u.oneCell' = true) (hG : ∀ b, G b → b < w.heap.size ∧ v.ownBlock ≠ some b)
    (h63 : l.length + l'.length ≤ maxLen) (hbytes : (l.length + l'.length) * bytes ≤ 140737488355328) (hbase : base ≤ w.heap.size)
    (h : ∀ v' w', OwnG size R e base w' v' G (l ++ l') → w.grownBy w' v.ownBlock → (v'.ownBlock = v.ownBlock ∨ v'.ownBlock = some w.heap.size) → wpList P ops Q rest (a.put o.dst v') w') : wpList P ops Q (o :: rest) a w := by
  obtain ⟨i, z, e1, e2, e3, e4, e5, e6, e7⟩ := hE
  obtain ⟨css, hlen, ho', hsz, hel'⟩ := hown
  obtain ⟨A', c', hv, hlc, hcm, hA⟩ := hsl
  injection hv with hv1 hv2 hv3
  subst hv2; subst hv3
  obtain ⟨css', hl', hsz', hcell', hel''⟩ : ∃ css' : List (List Value), css'.length = l'.length ∧ (∀ cs ∈ css', cs.length = size) ∧ (∀ j u, css'.flatten[j]? = some u → w.cell? (ad.add j) = some u) ∧
      (∀ (i : Nat) (a : α) (cs : List Value), l'[i]? = some a → css'[i]? = some cs → R w F cs a) := by
    by_cases h0 : 0 < l'.length
    · obtain ⟨b, o, hab, hFb, _⟩ := hA h0
      have hab' : ad = ⟨b, o, none⟩ := Option.some.inj (hv1.trans hab)
      subst hab'
      obtain ⟨css', a1, a2, a3, a4⟩ := Sl.rows (l := l') (b := b) (o := o) (n := l'.length) (c := c) ⟨A', c, by rw [hv1], hlc, hcm, hA⟩ e7
      refine ⟨css', a1, a2, fun j u hu => ?_, a4⟩
      have hadd : (⟨b, o, none⟩ : Addr).add j = ⟨b, o + j, none⟩ := Addr.add_lit b o j
      rw [hadd]; exact a3 j u hu
    · have : l' = [] := List.eq_nil_of_length_eq_zero (by omega)
      subst this
      exact ⟨[], rfl, by simp, by simp, by simp⟩
  obtain ⟨v', w', hr, h2, h3, _, h4⟩ := run_append_own_at (P := P) w base t o.type e i z size bytes e1 e2 e3 e4 e5 e6 e7 v l.length css.flatten ho' ad l'.length c css'.flatten (by rw [flat_len hsz', hl'])
    hcell' (fun u hu => by
      obtain ⟨cs, hc, hu'⟩ := List.mem_flatten.1 hu
      obtain ⟨i, hi⟩ := List.mem_iff_getElem?.1 hc
      have hil : i < l'.length := by have := (List.getElem?_eq_some_iff.1 hi).1; omega
      exact h1 w F cs _ (hel'' i l'[i] cs (List.getElem?_eq_getElem hil) hi) u hu') h63 hbytes hbase
  have hS : Same G w w' := Same.grown h3 fun b hb => ⟨(hG b hb).1, fun e => (hG b hb).2 e.symm⟩
  refine wpList_plain hgd fun K hK => ?_
  unfold Oper.wp execOp
  simp only [ho, resolve, invoke, builtin, Sem.run_bind, Sem.run_pure, Result.andThen_ok, List.map_toArray, List.map_cons, List.map_nil, hs, hx, hr]
  refine hK _ _ (h v' w' ⟨css ++ css', by simp [hlen, hl'], ?_, ?_, ?_⟩ h3 h4)
  · rw [List.length_append, List.flatten_append]; exact h2
  · intro cs hc
    rcases List.mem_append.1 hc with hc | hc
    · exact hsz cs hc
    · exact hsz' cs hc
  · intro i x cs hi hc
    by_cases hil : i < l.length
    · rw [List.getElem?_append_left hil] at hi
      rw [List.getElem?_append_left (by omega)] at hc
      exact hR.keep (hel' i x cs hi hc) hS fun _ h => h
    · rw [List.getElem?_append_right (by omega)] at hi
      rw [List.getElem?_append_right (by omega), hlen] at hc
      exact hR.keep (hR.keep (hel'' _ x cs hi hc) (Same.refl _ _) hF) hS fun _ h => h

def SlPost {α : Type} (size : Nat) (R : World → (Nat → Prop) → List Value → α → Prop) (w : World) (l : List α) (e : Ending) (w' : World) : Prop :=
  ∃ v, e = .returned v ∧ Sl size R w' (fun b => w.heap.size ≤ b ∧ b < w'.heap.size) v l ∧ Below w.heap.size w w'
theorem elFld_one : ∀ w F cs x, elFld w F cs x → ∀ u ∈ cs, u.oneCell' = true := by
  rintro w F cs x rfl
  exact oneCells rfl
theorem elFld_any {size base e : Nat} {w : World} {v : Value} {G : Nat → Prop} {l : List Fld} (h : OwnG size elFld e base w v G l) : OwnSl size elFld e base w v l := h
end Go.Proofs.YtfnfbojaiikigaaGreatDoor
