/- Plain laws: unquoting what was quoted; the lines of a source that are accepted; written lines are split into lines with the same fields; where the lines of a source begin. -/
import Derived.Test.YtdgejeiiiholnaaGreatDoorP32
set_option linter.unusedSimpArgs false
set_option linter.unusedVariables false
namespace Go.Proofs.YtdgejeiiiholnaaGreatDoor

/-- The string of a quoted field, and the error. -/
def unquoteS (l : List UInt8) : List UInt8 × Int :=
  if l.head? = some 34 then (if (quotedS (l.drop 1) 1 []).2.2 = true ∧ (quotedS (l.drop 1) 1 []).2.1 = l.length then ((quotedS (l.drop 1) 1 []).1, 0) else ([], 4)) else ([], 4)
theorem quotedS_bad (rest : List UInt8) : ∀ (t : List UInt8) (j : Nat) (acc : List UInt8), t.all printedB = false → (quotedS (subst1 34 [34, 34] t ++ rest) j acc).2.2 = false := by
  intro t
  induction t with
  | nil => intro j acc h; simp at h
  | cons b t ih =>
    intro j acc h
    rw [subst1_cons]
    by_cases hb : b = 34
    · subst hb
      rw [if_pos rfl]
      have h' : t.all printedB = false := by
        rw [List.all_cons] at h
        have : printedB 34 = true := by decide
        rw [this] at h; simpa using h
      show (quotedS (34 :: 34 :: (subst1 34 [34, 34] t ++ rest)) j acc).2.2 = false
      rw [quotedS.eq_def]; dsimp only
      rw [if_pos rfl, if_pos rfl]
      exact ih _ _ h'
    · rw [if_neg hb]
      show (quotedS (b :: (subst1 34 [34, 34] t ++ rest)) j acc).2.2 = false
      rw [quotedS.eq_def]; dsimp only
      rw [if_neg hb]
      by_cases hp : printedB b = true
      · rw [if_pos hp]
        refine ih _ _ ?_
        rw [List.all_cons, hp] at h; simpa using h
      · rw [if_neg hp]
theorem quoteS_head (t : List UInt8) : (quoteS t).head? = some 34 ∧ (quoteS t).drop 1 = subst1 34 [34, 34] t ++ [34] := by unfold quoteS; simp
theorem unquote_good {t : List UInt8} (h : t.all printedB = true) : unquoteS (quoteS t) = (t, 0) := by
  obtain ⟨h1, h2⟩ := quoteS_head t
  have hb := quotedS_back [] (by simp) t 1 [] h
  unfold unquoteS
  rw [if_pos h1, h2, hb, if_pos ⟨rfl, by unfold quoteS; simp; omega⟩]
  simp
theorem unquote_bad {t : List UInt8} (h : t.all printedB = false) : unquoteS (quoteS t) = ([], 4) := by
  obtain ⟨h1, h2⟩ := quoteS_head t
  have hb := quotedS_bad [34] t 1 [] h
  unfold unquoteS
  rw [if_pos h1, h2, if_neg (fun k => by rw [hb] at k; cases k.1)]
/-- A line that was split off: its number, its piece. -/
def LineOf (ps : List (List UInt8)) (n : Int) (x : Lin) : Prop :=
  ∃ (i : Nat) (p : List UInt8), ps[i]? = some p ∧ x.num = n + i ∧ fieldsS p = (x.fields, 0) ∧ x.fields ≠ [] ∧ p.length ≤ 1000
theorem LineOf.cons {p : List UInt8} {ps : List (List UInt8)} {n : Int} {x : Lin} (h : LineOf ps (n + 1) x) : LineOf (p :: ps) n x := by
  obtain ⟨i, q, h1, h2, h3, h4, h5⟩ := h
  exact ⟨i + 1, q, by simpa using h1, by rw [h2]; push_cast; omega, h3, h4, h5⟩
theorem splitF_lines : ∀ (ps : List (List UInt8)) (n : Int) (out : List Lin) (ds : List Dia), ∀ x ∈ (splitF ps n out ds).1, x ∈ out ∨ LineOf ps n x := by
  intro ps
  induction ps with
  | nil => intro n out ds x hx; rw [splitF] at hx; exact .inl hx
  | cons p ps ih =>
    intro n out ds x hx
    rw [splitF] at hx
    split at hx
    · exact (ih _ _ _ x hx).imp id LineOf.cons
    · rename_i h1
      split at hx
      · exact (ih _ _ _ x hx).imp id LineOf.cons
      · rename_i h2
        split at hx
        · rename_i h3
          rcases ih _ _ _ x hx with h | h
          · rcases List.mem_append.1 h with h | h
            · exact .inl h
            · simp only [List.mem_cons, List.not_mem_nil, or_false] at h
              subst h
              refine .inr ⟨0, p, rfl, by simp, ?_, h3, by omega⟩
              have : (fieldsS p).2 = 0 := by omega
              rw [← this]
          · exact .inr h.cons
        · exact (ih _ _ _ x hx).imp id LineOf.cons
theorem splitS_lines {s : List UInt8} {x : Lin} (h : x ∈ (splitS s).1) : LineOf (pieces 10 s) 1 x := by
  unfold splitS at h
  split at h
  · simp at h
  · rcases splitF_lines _ _ _ _ x h with h | h
    · simp at h
    · exact h
theorem LineOf.okL {ps : List (List UInt8)} {n : Int} {x : Lin} (h : LineOf ps n x) : okL x := by
  obtain ⟨i, p, h1, h2, h3, h4, h5⟩ := h
  have hl := fieldsS_lay h3
  have := hl.len _ _ _ (Nat.zero_le _)
  exact ⟨h4, hl.ok _ _ _, by omega⟩
/-- The whole text of lines that were split off is no longer than the source and one byte. -/
theorem splitF_write : ∀ (ps : List (List UInt8)) (n : Int) (out : List Lin) (ds : List Dia), (writeS (splitF ps n out ds).1).length ≤ (writeS out).length + (ps.map fun p => p.length + 1).sum := by
  have happ : ∀ (a : List Lin) (x : Lin), (writeS (a ++ [x])).length = (writeS a).length + (lineW x.fields true).length + (endW x.fields).length := by
    intro a x
    induction a with
    | nil => simp [writeS]
    | cons y a ih => rw [List.cons_append, writeS, writeS, List.length_append, List.length_append, List.length_append, List.length_append, ih]; omega
  intro ps
  induction ps with
  | nil => intro n out ds; simp [splitF]
  | cons p ps ih =>
    intro n out ds
    rw [splitF, List.map_cons, List.sum_cons]
    split
    · have := ih (n + 1) out (if ds.length < 50 then ds ++ [⟨n, 1001, 9⟩] else ds); omega
    · split
      · have := ih (n + 1) out (if ds.length < 50 then ds ++ [⟨n, (fieldsS p).2, 4⟩] else ds); omega
      · rename_i h2
        split
        · have h := ih (n + 1) (out ++ [⟨n, (fieldsS p).1⟩]) ds
          rw [happ] at h
          have h0 : (fieldsS p).2 = 0 := by omega
          have hl := (fieldsS_lay (l := p) (fs := (fieldsS p).1) (by rw [← h0])).len _ _ _ (Nat.zero_le _)
          have he : (endW (fieldsS p).1).length ≤ 1 := by unfold endW; split <;> simp
          simp only at h
          omega
        · have := ih (n + 1) out ds; omega
theorem pieces_sum : ∀ l : List UInt8, ((pieces 10 l).map fun p => p.length + 1).sum = l.length + 1 := by
  intro l
  induction l with
  | nil => rfl
  | cons b l ih =>
    rw [pieces]
    split
    · rw [List.map_cons, List.sum_cons, ih]; simp; omega
    · split
      · rename_i h; exact absurd h (pieces_ne 10 l)
      · rename_i p ps h
        rw [h] at ih
        rw [List.map_cons, List.sum_cons] at ih ⊢
        simp only [List.length_cons] at ih ⊢
        omega
theorem splitS_write (s : List UInt8) : (writeS (splitS s).1).length ≤ s.length + 1 := by
  unfold splitS
  split
  · simp [writeS]
  · have := splitF_write (pieces 10 s) 1 [] []
    rw [pieces_sum] at this
    simpa [writeS] using this
theorem split_again {s : List UInt8} (h : s.length ≤ 100000) : splitS (writeS (splitS s).1) = (backF (splitS s).1 1, []) := by
  refine splitS_back _ (fun x hx => (splitS_lines hx).okL) ?_
  have := splitS_write s
  omega
theorem backF_get : ∀ (ls : List Lin) (n : Int) (i : Nat), (backF ls n)[i]? = (ls[i]?).map fun x => (⟨n + i, placeF x.fields 0⟩ : Lin) := by
  intro ls
  induction ls with
  | nil => intro n i; simp [backF]
  | cons x ls ih =>
    intro n i
    rw [backF]
    cases i with
    | zero => simp
    | succ i => rw [List.getElem?_cons_succ, List.getElem?_cons_succ, ih]; congr 1; funext y; push_cast; congr 1; omega
theorem placeF_get : ∀ (fs : List Fld) (i k : Nat), ((placeF fs i)[k]?).map (fun f => (f.text, f.quoted)) = (fs[k]?).map fun f => (f.text, f.quoted) := by
  intro fs
  induction fs with
  | nil => intro i k; simp [placeF]
  | cons f fs ih =>
    intro i k
    rw [placeF]
    cases k with
    | zero => simp
    | succ k => rw [List.getElem?_cons_succ, List.getElem?_cons_succ, ih]
/-- Where lines begin behind the first. -/
def nlF : List UInt8 → Nat → List Nat
  | [], _ => []
  | c :: l, i => if c = 10 then (i + 1) :: nlF l (i + 1) else nlF l (i + 1)
theorem pieces_start : ∀ (l : List UInt8) (i0 : Nat), (i0 :: nlF l i0).length = (pieces 10 l).length ∧
    ∀ (i : Nat) (p : List UInt8), (pieces 10 l)[i]? = some p → ∃ s, (i0 :: nlF l i0)[i]? = some s ∧ i0 ≤ s ∧ p = (l.drop (s - i0)).take p.length ∧ s - i0 + p.length ≤ l.length := by
  intro l
  induction l with
  | nil =>
    intro i0
    refine ⟨rfl, fun i p h => ?_⟩
    rw [pieces] at h
    cases i with
    | zero => simp at h; subst h; exact ⟨i0, rfl, Nat.le_refl _, by simp, by simp⟩
    | succ i => simp at h
  | cons c l ih =>
    intro i0
    obtain ⟨h1, h2⟩ := ih (i0 + 1)
    rw [pieces, nlF]
    by_cases hc : c = 10
    · rw [if_pos hc, if_pos hc]
      refine ⟨by simp only [List.length_cons] at h1 ⊢; omega, fun i p h => ?_⟩
      cases i with
      | zero => simp at h; subst h; exact ⟨i0, rfl, Nat.le_refl _, by simp, by simp⟩
      | succ i =>
        rw [List.getElem?_cons_succ] at h
        obtain ⟨s, k1, k2, k3, k4⟩ := h2 i p h
        refine ⟨s, by rw [List.getElem?_cons_succ]; exact k1, by omega, ?_, ?_⟩
        · rw [show s - i0 = (s - (i0 + 1)) + 1 by omega, List.drop_succ_cons]; exact k3
        · simp only [List.length_cons]; omega
    · rw [if_neg hc, if_neg hc]
      cases hp : pieces 10 l with
      | nil => exact absurd hp (pieces_ne 10 l)
      | cons q qs =>
        rw [hp] at h1 h2
        dsimp only
        refine ⟨by simp only [List.length_cons] at h1 ⊢; omega, fun i p h => ?_⟩
        cases i with
        | zero =>
          simp at h; subst h
          obtain ⟨s, k1, k2, k3, k4⟩ := h2 0 q rfl
          simp at k1
          subst k1
          refine ⟨i0, rfl, Nat.le_refl _, ?_, ?_⟩
          · simp only [Nat.sub_self, List.drop_zero, List.length_cons, List.take_succ_cons] at k3 ⊢
            rw [← k3]
          · simp only [List.length_cons]; omega
        | succ i =>
          rw [List.getElem?_cons_succ] at h
          obtain ⟨s, k1, k2, k3, k4⟩ := h2 (i + 1) p (by rw [List.getElem?_cons_succ]; exact h)
          refine ⟨s, by rw [List.getElem?_cons_succ] at k1 ⊢; exact k1, by omega, ?_, ?_⟩
          · rw [show s - i0 = (s - (i0 + 1)) + 1 by omega, List.drop_succ_cons]; exact k3
          · simp only [List.length_cons]; omega
end Go.Proofs.YtdgejeiiiholnaaGreatDoor
