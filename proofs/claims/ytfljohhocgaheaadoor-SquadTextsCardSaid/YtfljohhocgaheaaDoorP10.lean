/- Plain law: lines that were written are read back, field by field. -/
import Derived.Test.YtfljohhocgaheaaDoorP9
set_option linter.unusedSimpArgs false
set_option linter.unusedVariables false
namespace Go.Proofs.YtfljohhocgaheaaDoor

/-- A field that can be written and read back as it is. -/
def okF (f : Fld) : Bool := if f.quoted then f.text.all printedB else wordS f.text
/-- Where the fields stand when they are written from column i + 1 on. -/
def placeF : List Fld → Nat → List Fld
  | [], _ => []
  | f :: fs, i => ⟨f.text, (i : Int) + 1, f.quoted⟩ :: placeF fs (i + (fieldW f).length + 1)
/-- All the fuel that is wanted. -/
def fieldsL (l : List UInt8) (i : Nat) (after : Bool) (out : List Fld) : List Fld × Nat := fieldsF l.length l i after out
theorem fieldsF_L {n : Nat} {l : List UInt8} (h : l.length ≤ n) (i : Nat) (after : Bool) (out : List Fld) : fieldsF n l i after out = fieldsL l i after out := fieldsF_fuel _ _ _ h (Nat.le_refl _) _ _ _

theorem quotedS_back (rest : List UInt8) (hr : rest.head? ≠ some 34) : ∀ (t : List UInt8) (j : Nat) (acc : List UInt8), t.all printedB = true →
    quotedS (subst1 34 [34, 34] t ++ 34 :: rest) j acc = (acc ++ t, j + (subst1 34 [34, 34] t).length + 1, true) := by
  intro t
  induction t with
  | nil =>
    intro j acc _
    show quotedS (34 :: rest) j acc = _
    rw [quotedS.eq_def]; dsimp only
    rw [if_pos rfl]
    cases rest with
    | nil => simp [subst1]
    | cons d r =>
      have : d ≠ 34 := fun e => hr (by simp [e])
      simp [this, subst1]
  | cons b t ih =>
    intro j acc h
    simp only [List.all_cons, Bool.and_eq_true] at h
    have hs : subst1 34 [34, 34] (b :: t) = (if b = 34 then [34, 34] else [b]) ++ subst1 34 [34, 34] t := by simp [subst1]
    rw [hs]
    by_cases hb : b = 34
    · subst hb
      rw [if_pos rfl]
      show quotedS (34 :: 34 :: (subst1 34 [34, 34] t ++ 34 :: rest)) j acc = _
      rw [quotedS.eq_def]; dsimp only
      rw [if_pos rfl, if_pos rfl, ih _ _ h.2]
      simp; omega
    · rw [if_neg hb]
      show quotedS (b :: (subst1 34 [34, 34] t ++ 34 :: rest)) j acc = _
      rw [quotedS.eq_def]; dsimp only
      rw [if_neg hb, if_pos h.1, ih _ _ h.2]
      simp; omega
theorem wordB_not {c : UInt8} (h : wordB c = true) : whiteB c = false ∧ c ≠ 59 ∧ c ≠ 34 ∧ c ≠ 10 := by
  unfold wordB at h
  simp only [Bool.and_eq_true, decide_eq_true_eq, bne_iff_ne, ne_eq] at h
  obtain ⟨⟨⟨h1, h2⟩, h3⟩, h4⟩ := h
  rw [UInt8.lt_iff_toNat_lt] at h1
  have h1' : 32 < c.toNat := h1
  refine ⟨?_, h4, h3, fun e => by subst e; revert h1'; decide⟩
  unfold whiteB
  rw [Bool.or_eq_false_iff]
  exact ⟨beq_eq_false_iff_ne.2 fun e => (by subst e; revert h1'; decide), beq_eq_false_iff_ne.2 fun e => (by subst e; revert h1'; decide)⟩
theorem takeWhile_all {α : Type} (p : α → Bool) (a b : List α) (ha : a.all p = true) (hb : ∀ x, b.head? = some x → p x = false) : (a ++ b).takeWhile p = a ∧ (a ++ b).dropWhile p = b := by
  induction a with
  | nil =>
    cases b with
    | nil => simp
    | cons x b => simp [hb x rfl]
  | cons x a ih =>
    simp only [List.all_cons, Bool.and_eq_true] at ha
    have := ih ha.2
    simp [ha.1, this.1, this.2]
/-- One field. -/
theorem fieldsL_field (f : Fld) (rest : List UInt8) (i : Nat) (out : List Fld) (hf : okF f = true) (hr : ∀ x, rest.head? = some x → x = 32) :
    fieldsL (fieldW f ++ rest) i false out = fieldsL rest (i + (fieldW f).length) f.quoted (out ++ [⟨f.text, (i : Int) + 1, f.quoted⟩]) := by
  unfold okF at hf
  have hr34 : rest.head? ≠ some 34 := fun e => by have := hr _ e; revert this; decide
  cases hq : f.quoted
  · rw [hq] at hf
    simp only [Bool.false_eq_true, if_false] at hf
    have hw : fieldW f = f.text := by unfold fieldW; rw [hq, hf]; rfl
    rw [hw]
    unfold wordS at hf
    simp only [Bool.and_eq_true, Bool.not_eq_true', List.isEmpty_eq_false_iff] at hf
    obtain ⟨h1, h2⟩ := hf
    obtain ⟨c, t, ht⟩ : ∃ c t, f.text = c :: t := by
      cases hx : f.text with
      | nil => exact absurd hx h2
      | cons c t => exact ⟨c, t, rfl⟩
    have hc : wordB c = true := by rw [ht] at h1; simp at h1; exact h1.1
    obtain ⟨n1, n2, n3, _⟩ := wordB_not hc
    have hrw : ∀ x, rest.head? = some x → wordB x = false := fun x hx => by rw [hr x hx]; decide
    obtain ⟨k1, k2⟩ := takeWhile_all wordB f.text rest h1 hrw
    unfold fieldsL
    rw [ht] at k1 k2 ⊢
    rw [List.cons_append] at k1 k2 ⊢
    rw [List.length_cons, fieldsF, if_neg (by rw [n1]; simp), if_neg n2, if_neg (by simp), if_neg n3, k1, k2, if_neg (by simp; exact hr34)]
    rw [fieldsF_L (by simp <;> omega)]
    rfl
  · rw [hq] at hf
    simp only [if_true] at hf
    have hw : fieldW f = quoteS f.text := by unfold fieldW; rw [hq]; rfl
    rw [hw]
    have hl : quoteS f.text ++ rest = 34 :: (subst1 34 [34, 34] f.text ++ 34 :: rest) := by unfold quoteS; simp
    have hb := quotedS_back rest hr34 f.text (i + 1) [] hf
    unfold fieldsL
    rw [hl, List.length_cons, fieldsF, if_neg (by decide), if_neg (by decide), if_neg (by simp), if_pos rfl, hb, if_pos rfl]
    simp only [List.nil_append]
    have hd : (subst1 34 [34, 34] f.text ++ 34 :: rest).drop (i + 1 + (subst1 34 [34, 34] f.text).length + 1 - (i + 1)) = rest := by
      rw [show i + 1 + (subst1 34 [34, 34] f.text).length + 1 - (i + 1) = (subst1 34 [34, 34] f.text).length + 1 from by omega]
      rw [List.drop_append, List.drop_of_length_le (by omega), show (subst1 34 [34, 34] f.text).length + 1 - (subst1 34 [34, 34] f.text).length = 1 from by omega]
      rfl
    rw [hd, fieldsF_L (by simp <;> omega)]
    have hq2 : (quoteS f.text).length = (subst1 34 [34, 34] f.text).length + 2 := by unfold quoteS; simp
    rw [hq2, show i + 1 + (subst1 34 [34, 34] f.text).length + 1 = i + ((subst1 34 [34, 34] f.text).length + 2) from by omega]
    rfl
theorem lineW_head (fs : List Fld) : ∀ x, (lineW fs false).head? = some x → x = 32 := by
  intro x h
  cases fs with
  | nil => simp [lineW] at h
  | cons f fs => rw [lineW] at h; simp at h; exact h.symm
theorem fieldsL_rest : ∀ (fs : List Fld) (i : Nat) (after : Bool) (out : List Fld), (∀ f ∈ fs, okF f = true) → fieldsL (lineW fs false) i after out = (out ++ placeF fs (i + 1), 0) := by
  intro fs
  induction fs with
  | nil => intro i after out _; simp [lineW, fieldsL, fieldsF, placeF]
  | cons f fs ih =>
    intro i after out h
    have hl : lineW (f :: fs) false = 32 :: (fieldW f ++ lineW fs false) := by rw [lineW]; simp
    have hstep : fieldsL (lineW (f :: fs) false) i after out = fieldsL (fieldW f ++ lineW fs false) (i + 1) false out := by
      unfold fieldsL
      rw [hl, List.length_cons, fieldsF, if_pos (by decide)]
    rw [hstep, fieldsL_field f _ _ _ (h f (by simp)) (lineW_head fs), ih _ _ _ fun g hg => h g (by simp [hg])]
    rw [placeF]
    simp [Nat.add_assoc]
/-- A written line. -/
theorem fieldsS_line (fs : List Fld) (h : ∀ f ∈ fs, okF f = true) : fieldsS (lineW fs true) = (placeF fs 0, 0) := by
  show fieldsL (lineW fs true) 0 false [] = _
  cases fs with
  | nil => rfl
  | cons f fs =>
    have hl : lineW (f :: fs) true = fieldW f ++ lineW fs false := by rw [lineW]; simp
    rw [hl, fieldsL_field f _ _ _ (h f (by simp)) (lineW_head fs), fieldsL_rest _ _ _ _ fun g hg => h g (by simp [hg])]
    rw [placeF]
    simp
theorem placeF_len : ∀ (fs : List Fld) (i : Nat), (placeF fs i).length = fs.length := by
  intro fs
  induction fs with
  | nil => intro i; rfl
  | cons f fs ih => intro i; rw [placeF, List.length_cons, ih, List.length_cons]

theorem subst1_no10 (t : List UInt8) (h : t.all printedB = true) : (10 : UInt8) ∉ subst1 34 [34, 34] t := by
  intro hm
  unfold subst1 at hm
  obtain ⟨b, hb, hx⟩ := List.mem_flatMap.1 hm
  have hp := List.all_eq_true.1 h b hb
  split at hx
  · simp at hx
  · simp at hx; subst hx; revert hp; decide
theorem fieldW_no10 {f : Fld} (h : okF f = true) : (10 : UInt8) ∉ fieldW f := by
  unfold okF at h
  cases hq : f.quoted
  · rw [hq] at h
    simp only [Bool.false_eq_true, if_false] at h
    have hw : fieldW f = f.text := by unfold fieldW; rw [hq, h]; rfl
    rw [hw]
    intro hm
    unfold wordS at h
    simp only [Bool.and_eq_true] at h
    exact (wordB_not (List.all_eq_true.1 h.1 _ hm)).2.2.2 rfl
  · rw [hq] at h
    simp only [if_true] at h
    have hw : fieldW f = quoteS f.text := by unfold fieldW; rw [hq]; rfl
    rw [hw]
    unfold quoteS
    have := subst1_no10 f.text h
    simp [this]
theorem lineW_no10 : ∀ (fs : List Fld) (b : Bool), (∀ f ∈ fs, okF f = true) → (10 : UInt8) ∉ lineW fs b := by
  intro fs
  induction fs with
  | nil => intro b _; simp [lineW]
  | cons f fs ih =>
    intro b h hm
    rw [lineW] at hm
    rcases List.mem_append.1 hm with hm | hm
    · rcases List.mem_append.1 hm with hm | hm
      · split at hm
        · simp at hm
        · simp at hm
      · exact fieldW_no10 (h f (by simp)) hm
    · exact ih false (fun g hg => h g (by simp [hg])) hm
theorem pieces_line (l r : List UInt8) (h : (10 : UInt8) ∉ l) : pieces 10 (l ++ 10 :: r) = l :: pieces 10 r := by
  induction l with
  | nil => simp [pieces]
  | cons b l ih =>
    have hb : b ≠ 10 := fun e => h (by simp [e])
    rw [List.cons_append, pieces, if_neg hb, ih fun hm => h (by simp [hm])]
def okL (x : Lin) : Prop := x.fields ≠ [] ∧ (∀ f ∈ x.fields, okF f = true) ∧ (lineW x.fields true).length ≤ 1000
/-- The lines as they are read back: numbered from n on, each field in its place. -/
def backF : List Lin → Int → List Lin
  | [], _ => []
  | x :: ls, n => ⟨n, placeF x.fields 0⟩ :: backF ls (n + 1)
theorem splitF_back : ∀ (ls : List Lin) (n : Int) (out : List Lin) (ds : List Dia), (∀ x ∈ ls, okL x) → splitF (pieces 10 (writeS ls)) n out ds = (out ++ backF ls n, ds) := by
  intro ls
  induction ls with
  | nil =>
    intro n out ds _
    have : (fieldsS []) = ([], 0) := rfl
    simp [writeS, pieces, splitF, this, backF]
  | cons x ls ih =>
    intro n out ds h
    obtain ⟨h1, h2, h3⟩ := h x (by simp)
    have hw : writeS (x :: ls) = lineW x.fields true ++ 10 :: writeS ls := by
      rw [writeS]; unfold endW
      have : x.fields.isEmpty = false := by simpa using h1
      rw [this]; simp
    rw [hw, pieces_line _ _ (lineW_no10 _ _ h2), splitF, if_neg (by omega), fieldsS_line _ h2]
    have hne : placeF x.fields 0 ≠ [] := fun e => h1 (List.eq_nil_of_length_eq_zero (by rw [← placeF_len x.fields 0, e]; rfl))
    simp only [ne_eq, not_true, if_false, hne, not_false_eq_true, if_true]
    rw [ih _ _ _ fun y hy => h y (by simp [hy]), backF]
    simp
theorem splitS_back (ls : List Lin) (h : ∀ x ∈ ls, okL x) (hl : (writeS ls).length ≤ 262144) : splitS (writeS ls) = (backF ls 1, []) := by
  unfold splitS
  rw [if_neg (by omega), splitF_back _ _ _ _ h]
  simp
end Go.Proofs.YtfljohhocgaheaaDoor
