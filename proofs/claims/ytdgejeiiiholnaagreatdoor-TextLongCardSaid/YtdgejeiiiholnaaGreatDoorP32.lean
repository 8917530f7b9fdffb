/- Plain law: where the fields of a line that is accepted lie in it. -/
import Derived.Test.YtdgejeiiiholnaaGreatDoorP10
set_option linter.unusedSimpArgs false
set_option linter.unusedVariables false
namespace Go.Proofs.YtdgejeiiiholnaaGreatDoor

theorem subst1_cons (b : UInt8) (t : List UInt8) : subst1 34 [34, 34] (b :: t) = (if b = 34 then [34, 34] else [b]) ++ subst1 34 [34, 34] t := by simp [subst1]
theorem subst1_snoc (t : List UInt8) (b : UInt8) : subst1 34 [34, 34] (t ++ [b]) = subst1 34 [34, 34] t ++ (if b = 34 then [34, 34] else [b]) := by simp [subst1]
/-- A quoted string that was read was written so. -/
theorem quotedS_fwd (n : Nat) : ∀ (l : List UInt8), l.length ≤ n → ∀ (j : Nat) (acc t : List UInt8) (q : Nat), quotedS l j acc = (t, q, true) →
    ∃ u rest, t = acc ++ u ∧ l = subst1 34 [34, 34] u ++ 34 :: rest ∧ u.all printedB = true ∧ q = j + (subst1 34 [34, 34] u).length + 1 ∧ rest.head? ≠ some 34 := by
  induction n with
  | zero =>
    intro l hl j acc t q h
    have : l = [] := List.eq_nil_of_length_eq_zero (by omega)
    subst this
    rw [quotedS] at h; simp at h
  | succ n ih =>
    intro l hl j acc t q h
    cases l with
    | nil => rw [quotedS] at h; simp at h
    | cons c l =>
      simp only [List.length_cons] at hl
      rw [quotedS.eq_def] at h; dsimp only at h
      by_cases hc : c = 34
      · subst hc
        rw [if_pos rfl] at h
        cases l with
        | nil =>
          simp only [Prod.mk.injEq] at h
          obtain ⟨rfl, rfl, _⟩ := h
          exact ⟨[], [], by simp, rfl, rfl, by simp [subst1], by simp⟩
        | cons d l' =>
          simp only [List.length_cons] at hl
          dsimp only at h
          by_cases hd : d = 34
          · subst hd
            rw [if_pos rfl] at h
            obtain ⟨u, rest, h1, h2, h3, h4, h5⟩ := ih l' (by omega) _ _ _ _ h
            refine ⟨34 :: u, rest, by simp [h1], ?_, by simp [h3]; decide, ?_, h5⟩
            · rw [subst1_cons, if_pos rfl, h2]; simp
            · rw [h4, subst1_cons, if_pos rfl]; simp; omega
          · rw [if_neg hd] at h
            simp only [Prod.mk.injEq] at h
            obtain ⟨rfl, rfl, _⟩ := h
            exact ⟨[], d :: l', by simp, rfl, rfl, by simp [subst1], by simp [hd]⟩
      · rw [if_neg hc] at h
        by_cases hp : printedB c = true
        · rw [if_pos hp] at h
          obtain ⟨u, rest, h1, h2, h3, h4, h5⟩ := ih l (by omega) _ _ _ _ h
          refine ⟨c :: u, rest, by simp [h1], ?_, by simp [h3, hp], ?_, h5⟩
          · rw [subst1_cons, if_neg hc, h2]; simp
          · rw [h4, subst1_cons, if_neg hc]; simp; omega
        · rw [if_neg hp] at h
          simp at h
/-- The fields lie in the line l, one behind the other from e on, with white space alone between them. -/
def LayF (l : List UInt8) : Nat → Bool → List Fld → Prop
  | _, _, [] => True
  | e, first, f :: fs => ∃ p : Nat, f.col = (p : Int) + 1 ∧ e ≤ p ∧ (first = false → e < p) ∧ (∀ (k : Nat) (c : UInt8), e ≤ k → k < p → l[k]? = some c → whiteB c = true) ∧
      (l.drop p).take (fieldW f).length = fieldW f ∧ p + (fieldW f).length ≤ l.length ∧ okF f = true ∧ LayF l (p + (fieldW f).length) false fs
theorem okF_word_of {w : List UInt8} (h1 : w.all wordB = true) (h2 : w ≠ []) (c : Int) : okF ⟨w, c, false⟩ = true ∧ fieldW ⟨w, c, false⟩ = w := by
  have hw : wordS w = true := by unfold wordS; simp only [Bool.and_eq_true, Bool.not_eq_true', List.isEmpty_eq_false_iff]; exact ⟨h1, h2⟩
  exact ⟨by unfold okF; simpa using hw, by unfold fieldW; simp [hw]⟩
theorem takeWhile_allB {α : Type} (p : α → Bool) : ∀ l : List α, (l.takeWhile p).all p = true := by
  intro l
  induction l with
  | nil => rfl
  | cons a l ih => cases h : p a <;> simp [List.takeWhile, h, ih]
theorem dropWhile_headB {α : Type} (p : α → Bool) : ∀ (l : List α) (c : α), (l.dropWhile p).head? = some c → p c = false := by
  intro l
  induction l with
  | nil => intro c h; simp at h
  | cons a l ih =>
    intro c h
    cases ha : p a
    · simp [List.dropWhile, ha] at h; subst h; exact ha
    · simp [List.dropWhile, ha] at h; exact ih c h
theorem dropWhile_drop {α : Type} (p : α → Bool) : ∀ l : List α, l.dropWhile p = l.drop (l.takeWhile p).length := by
  intro l
  induction l with
  | nil => rfl
  | cons a l ih => cases h : p a <;> simp [List.dropWhile, List.takeWhile, h, ih]
theorem takeWhile_take {α : Type} (p : α → Bool) : ∀ l : List α, l.take (l.takeWhile p).length = l.takeWhile p := by
  intro l
  induction l with
  | nil => rfl
  | cons a l ih => cases h : p a <;> simp [List.takeWhile, h, ih]
theorem fieldsF_lay (l : List UInt8) (n : Nat) : ∀ (r : List UInt8) (i : Nat) (after : Bool) (out fs : List Fld) (e : Nat) (first : Bool), r = l.drop i → r.length ≤ n → i ≤ l.length → e ≤ i →
    (∀ (k : Nat) (c : UInt8), e ≤ k → k < i → l[k]? = some c → whiteB c = true) → (first = false → e < i ∨ after = true ∨ ∀ c, r.head? = some c → wordB c = false ∧ c ≠ 34) →
    fieldsF n r i after out = (fs, 0) → ∃ new, fs = out ++ new ∧ LayF l e first new := by
  induction n with
  | zero =>
    intro r i after out fs e first hr hn hi he hw hc h
    rw [fieldsF] at h
    simp only [Prod.mk.injEq, and_true] at h
    exact ⟨[], by simp [h], trivial⟩
  | succ n ih =>
    intro r i after out fs e first hr hn hi he hw hc h
    cases r with
    | nil =>
      rw [fieldsF] at h
      · simp only [Prod.mk.injEq, and_true] at h
        exact ⟨[], by simp [h], trivial⟩
      · intro h'; cases h'
    | cons c r =>
      have hil : i < l.length := by
        rcases Nat.lt_or_ge i l.length with h' | h'
        · exact h'
        · rw [List.drop_of_length_le h'] at hr; cases hr
      have hci : l[i]? = some c := by
        have := congrArg (fun x => x[0]?) hr
        simp only [List.getElem?_cons_zero, List.getElem?_drop, Nat.add_zero] at this
        exact this.symm
      have hr1 : r = l.drop (i + 1) := by
        have := congrArg (List.drop 1) hr
        simpa [List.drop_drop] using this
      simp only [List.length_cons] at hn
      rw [fieldsF] at h
      by_cases h1 : whiteB c = true
      · rw [if_pos h1] at h
        exact ih r (i + 1) false out fs e first hr1 (by omega) hil (by omega) (fun k d hk1 hk2 hd => by
          by_cases hki : k = i
          · subst hki; rw [hci] at hd; injection hd with hd; subst hd; exact h1
          · exact hw k d hk1 (by omega) hd) (fun _ => .inl (by omega)) h
      · rw [if_neg h1] at h
        by_cases h2 : c = 59
        · rw [if_pos h2] at h
          simp only [Prod.mk.injEq, and_true] at h
          exact ⟨[], by simp [h], trivial⟩
        · rw [if_neg h2] at h
          cases after with
          | true => simp at h
          | false =>
            rw [if_neg (by simp)] at h
            have hfe : first = false → wordB c = true ∨ c = 34 → e < i := fun hf hcc => by
              rcases hc hf with h3 | h3 | h3
              · exact h3
              · cases h3
              · have := h3 c rfl
                rcases hcc with h4 | h4
                · rw [h4] at this; exact absurd this.1 (by simp)
                · exact absurd h4 this.2
            by_cases h3 : c = 34
            · rw [if_pos h3] at h
              obtain ⟨⟨t, q, ok⟩, hq⟩ : ∃ x, x = quotedS r (i + 1) [] := ⟨_, rfl⟩
              rw [← hq] at h
              cases ok with
              | false => simp at h
              | true =>
                simp only [if_true] at h
                obtain ⟨u, rest, g1, g2, g3, g4, g5⟩ := quotedS_fwd _ r (Nat.le_refl _) _ _ _ _ hq.symm
                rw [List.nil_append] at g1
                subst g1
                have hfw : fieldW ⟨t, (i : Int) + 1, true⟩ = quoteS t := by unfold fieldW; simp
                have hql : (quoteS t).length = (subst1 34 [34, 34] t).length + 2 := by unfold quoteS; simp
                have hqe : q = i + (quoteS t).length := by rw [g4, hql]; omega
                have hlq : l.drop i = quoteS t ++ rest := by rw [← hr, h3, g2]; unfold quoteS; simp
                have hlen : i + (quoteS t).length ≤ l.length := by
                  have := congrArg List.length hlq
                  simp only [List.length_drop, List.length_append] at this
                  omega
                have hrest : r.drop (q - (i + 1)) = l.drop q := by
                  rw [hr1, List.drop_drop]; congr 1; omega
                obtain ⟨new, k1, k2⟩ := ih (r.drop (q - (i + 1))) q true (out ++ [⟨t, (i : Int) + 1, true⟩]) fs q false hrest (by simp; omega) (by omega) (Nat.le_refl _) (fun k d hk1 hk2 _ => absurd hk1 (by omega)) (fun _ => .inr (.inl rfl)) h
                refine ⟨⟨t, (i : Int) + 1, true⟩ :: new, by rw [k1]; simp, i, rfl, he, fun hf => hfe hf (.inr h3), hw, ?_, by rw [hfw]; exact hlen, by unfold okF; simpa using g3, by rw [hfw, ← hqe]; exact k2⟩
                rw [hfw, hlq, List.take_left']
                rfl
            · rw [if_neg h3] at h
              by_cases h4 : ((c :: r).takeWhile wordB).length = 0 ∨ ((c :: r).dropWhile wordB).head? = some 34
              · rw [if_pos h4] at h
                simp at h
              · rw [if_neg h4] at h
                obtain ⟨h5, h6⟩ := not_or.1 h4
                obtain ⟨wd, hwd⟩ : ∃ x, x = (c :: r).takeWhile wordB := ⟨_, rfl⟩
                have hwb := takeWhile_allB wordB (c :: r)
                have hdw := dropWhile_drop wordB (c :: r)
                have htk := takeWhile_take wordB (c :: r)
                have hhd := dropWhile_headB wordB (c :: r)
                rw [← hwd] at hwb hdw htk h h5
                have hne : wd ≠ [] := fun e => h5 (by simp [e])
                have hcw : wordB c = true := by
                  cases hx : wordB c
                  · rw [hwd] at hne; simp [List.takeWhile, hx] at hne
                  · rfl
                obtain ⟨ok1, ok2⟩ := okF_word_of hwb hne ((i : Int) + 1)
                have hwl : wd.length ≤ (c :: r).length := by have := congrArg List.length htk; simp only [List.length_take] at this; omega
                have hlen : i + wd.length ≤ l.length := by
                  have := congrArg List.length hr
                  simp only [List.length_drop] at this
                  omega
                have hrest : (c :: r).dropWhile wordB = l.drop (i + wd.length) := by rw [hdw, hr, List.drop_drop]
                have hlr : ((c :: r).dropWhile wordB).length ≤ n := by
                  rw [hdw, List.length_drop]
                  have : 0 < wd.length := Nat.pos_of_ne_zero h5
                  simp only [List.length_cons]; omega
                obtain ⟨new, k1, k2⟩ := ih ((c :: r).dropWhile wordB) (i + wd.length) false (out ++ [⟨wd, (i : Int) + 1, false⟩]) fs (i + wd.length) false hrest hlr hlen (Nat.le_refl _) (fun k d hk1 hk2 _ => absurd hk1 (by omega))
                  (fun _ => .inr (.inr fun d hd => ⟨hhd d hd, fun e => h6 (by rw [hd, e])⟩)) h
                refine ⟨⟨wd, (i : Int) + 1, false⟩ :: new, by rw [k1]; simp, i, rfl, he, fun hf => hfe hf (.inl hcw), hw, ?_, by rw [ok2]; exact hlen, ok1, by rw [ok2]; exact k2⟩
                rw [ok2, ← hr]; exact htk
theorem fieldsS_lay {l : List UInt8} {fs : List Fld} (h : fieldsS l = (fs, 0)) : LayF l 0 true fs := by
  obtain ⟨new, h1, h2⟩ := fieldsF_lay l _ l 0 false [] fs 0 true rfl (Nat.le_refl _) (Nat.zero_le _) (Nat.le_refl _) (fun k c _ hk => absurd hk (by omega)) (fun h => by cases h) h
  rw [List.nil_append] at h1
  subst h1
  exact h2
theorem LayF.ok {l : List UInt8} : ∀ (fs : List Fld) (e : Nat) (first : Bool), LayF l e first fs → ∀ f ∈ fs, okF f = true := by
  intro fs
  induction fs with
  | nil => intro e first _ f hf; simp at hf
  | cons g fs ih =>
    intro e first h f hf
    obtain ⟨p, _, _, _, _, _, _, h1, h2⟩ := h
    rcases List.mem_cons.1 hf with rfl | hf
    · exact h1
    · exact ih _ _ h2 f hf
theorem LayF.len {l : List UInt8} : ∀ (fs : List Fld) (e : Nat) (first : Bool), e ≤ l.length → LayF l e first fs → e + (lineW fs first).length ≤ l.length := by
  intro fs
  induction fs with
  | nil => intro e first he _; simpa [lineW] using he
  | cons g fs ih =>
    intro e first he h
    obtain ⟨p, _, h1, h2, _, _, h3, _, h4⟩ := h
    have := ih _ _ h3 h4
    rw [lineW]
    cases first
    · have := h2 rfl
      simp; omega
    · simp; omega
end Go.Proofs.YtdgejeiiiholnaaGreatDoor
