/- Plain law: lines that were written are read back, field by field. -/
import Derived.Test.YtdgejeiiiholnaaGreatDoorP9
set_option linter.unusedSimpArgs false
set_option linter.unusedVariables false
namespace Go.Proofs.YtdgejeiiiholnaaGreatDoor

/-- A field that can be written and read back as it is. -/
def okF (f : Fld) : Bool := if f.quoted then f.text.all printedB else wordS f.text
/-- Where the fields stand when they are written from column i + 1 on. -/
def placeF : List Fld → Nat → List Fld
  | [], _ => []
  | f :: fs, i => ⟨f.text, (i : Int) + 1, f.quoted⟩ :: placeF fs (i + (fieldW f).length + 1)
/-- All the fuel that is wanted. -/
def fieldsL (l : List UInt8) (i : Nat) (after : Bool) (out : List Fld) : List Fld × Nat := fieldsF l.length l i after out
theorem fieldsF_L {n : Nat} {l : List UInt8} (h : l.length ≤ n) (i : Nat) (after : Bool) (out : List Fld) : fieldsF n l i after out = fieldsL l i after out := fieldsF_fuel _ _ _ h (Nat.le_refl _) _ _ _

theorem quotedS_back (rest : List UInt8) (hr : rest.head? ≠ some 34) : ∀ (t : List UInt8) (j : Nat) (acc : List UInt8), t.all printedB = true →
    quotedS (subst1 34 [34, 34] t ++ 34 :: rest) j acc = (acc ++ t, j + (subst1 34 [34, 34] t).length + 1, true) := by
  intro t
  induction t with
  | nil =>
    intro j acc _
    show quotedS (34 :: rest) j acc = _
    rw [quotedS.eq_def]; dsimp only
    rw [if_pos rfl]
    cases rest with
    | nil => simp [subst1]
    | cons d r =>
      have : d ≠ 34 := fun e => hr (by simp [e])
      simp [this, subst1]
  | cons b t ih =>
    intro j acc h
    simp only [List.all_cons, Bool.and_eq_true] at h
    have hs : subst1 34 [34, 34] (b :: t) = (if b = 34 then [34, 34] else [b]) ++ subst1 34 [34, 34] t := by simp [subst1]
    rw [hs]
    by_cases hb : b = 34
    · subst hb
      rw [if_pos rfl]
      show quotedS (34 :: 34 :: (subst1 34 [34, 34] t ++ 34 :: rest)) j acc = _
      rw [quotedS.eq_def]; dsimp only
      rw [if_pos rfl, if_pos rfl, ih _ _ h.2]
      simp; omega
    · rw [if_neg hb]
      show quotedS (b :: (subst1 34 [34, 34] t ++ 34 :: rest)) j acc = _
      rw [quotedS.eq_def]; dsimp only
      rw [if_neg hb, if_pos h.1, ih _ _ h.2]
      simp; omega
theorem wordB_not {c : UInt8} (h : wordB c = true) : whiteB c = false ∧ c ≠ 59 ∧ c ≠ 34 ∧ c ≠ 10 := by
  unfold wordB at h
  simp only [Bool.and_eq_true, decide_eq_true_eq, bne_iff_ne, ne_eq] at h
  obtain ⟨⟨⟨h1, h2⟩, h3⟩, h4⟩ := h
  rw [UInt8.lt_iff_toNat_lt] at h1
  have h1' : 32 < c.toNat := h1
  refine ⟨?_, h4, h3, fun e => by subst e; revert h1'; decide⟩
  unfold whiteB
  rw [Bool.or_eq_false_iff]
  exact ⟨beq_eq_false_iff_ne.2 fun e => (by subst e; revert h1'; decide), beq_eq_false_iff_ne.2 fun e => (by subst e; revert h1'; decide)⟩
theorem takeWhile_all {α : Type} (p : α → Bool) (a b : List α) (ha : a.all p = true) (hb : ∀ x, b.head? = some x → p x = false) : (a ++ b).takeWhile p = a ∧ (a ++ b).dropWhile p = b := by
  induction a with
  | nil =>
    cases b with
    | nil => simp
    | cons x b => simp [hb x rfl]
  | cons x a ih =>
    simp only [List.all_cons, Bool.and_eq_true] at ha
    have := ih ha.2
    simp [ha.1, this.1, this.2]
/-- One field. -/
theorem fieldsL_field (f : Fld) (rest : List UInt8) (i : Nat) (out : List Fld) (hf : okF f = true) (hr : ∀ x, rest.head? = some x → x = 32) :
    fieldsL (fieldW f ++ rest) i false out = fieldsL rest (i + (fieldW f).length) f.quoted (out ++ [⟨f.text, (i : Int) + 1, f.quoted⟩]) := by
  unfold okF at hf
  have hr34 : rest.head? ≠ some 34 := fun e => by have := hr _ e; revert this; decide
  cases hq : f.quoted
  · rw [hq] at hf
    simp only [Bool.false_eq_true, if_false] at hf
    have hw : fieldW f = f.text := by unfold fieldW; rw [hq, hf]; rfl
    rw [hw]
    unfold wordS at hf
    simp only [Bool.and_eq_true, Bool.not_eq_true', List.isEmpty_eq_false_iff] at hf
    obtain ⟨h1, h2⟩ := hf
    obtain ⟨c, t, ht⟩ : ∃ c t, f.text = c :: t := by
      cases hx : f.text with
      | nil => exact absurd hx h2
      | cons c t => exact ⟨c, t, rfl⟩
    have hc : wordB c = true := by rw [ht] at h1; simp at h1; exact h1.1
    obtain ⟨n1, n2, n3, _⟩ := wordB_not hc
    have hrw : ∀ x, rest.head? = some x → wordB x = false := fun x hx => by rw [hr x hx]; decide
    obtain ⟨k1, k2⟩ := takeWhile_all wordB f.text rest h1 hrw
    unfold fieldsL
    rw [ht] at k1 k2 ⊢
    rw [List.cons_append] at k1 k2 ⊢
    rw [List.length_cons, fieldsF, if_neg (by rw [n1]; simp), if_neg n2, if_neg (by simp), if_neg n3, k1, k2, if_neg (by simp; exact hr34)]
    rw [fieldsF_L (by simp <;> omega)]
    rfl
  · rw [hq] at hf
    simp only [if_true] at hf
    have hw : fieldW f = quoteS f.text := by unfold fieldW; rw [hq]; rfl
    rw [hw]
    have hl : quoteS f.text ++ rest = 34 :: (subst1 34 [34, 34] f.text ++ 34 :: rest) := by unfold quoteS; simp
    have hb := quotedS_back rest hr34 f.text (i + 1) [] hf
    unfold fieldsL
    rw [hl, List.length_cons, fieldsF, if_neg (by decide), if_neg (by decide), if_neg (by simp), if_pos rfl, hb, if_pos rfl]
    simp only [List.nil_append]
    have hd : (subst1 34 [34, 34] f.text ++ 34 :: rest).drop (i + 1 + (subst1 34 [34, 34] f.text).length + 1 - (i + 1)) = rest := by
      rw [show i + 1 + (subst1 34 [34, 34] f.text).length + 1 - (i + 1) = (subst1 34 [34, 34] f.text).length + 1 from by omega]
      rw [List.drop_append, List.drop_of_length_le (by omega), show (subst1 34 [34, 34] f.text).length + 1 - (subst1 34 [34, 34] f.text).length = 1 from by omega]
      rfl
    rw [hd, fieldsF_L (by simp <;> omega)]
    have hq2 : (quoteS f.text).length = (subst1 34 [34, 34] f.text).length + 2 := by unfold quoteS; simp
    rw [hq2, show i + 1 + (subst1 34 [34, 34] f.text).length + 1 = i + ((subst1 34 [34, 34] f.text).length + 2) from by omega]
    rfl
theorem lineW_head (fs : List Fld) : ∀ x, (lineW fs false).head? = some x → x = 32 := by
  intro x h
  cases fs with
  | nil => simp [lineW] at h
  | cons f fs => rw [lineW] at h; simp at h; exact h.symm
theorem fieldsL_rest : ∀ (fs : List Fld) (i : Nat) (after : Bool) (out : List Fld), (∀ f ∈ fs, okF f = true) → fieldsL (lineW fs false) i after out = (out ++ placeF fs (i + 1), 0) := by
  intro fs
  induction fs with
  | nil => intro i after out _; simp [lineW, fieldsL, fieldsF, placeF]
  | cons f fs ih =>
    intro i after out h
    have hl : lineW (f :: fs) false = 32 :: (fieldW f ++ lineW fs false) := by rw [lineW]; simp
    have hstep : fieldsL (lineW (f :: fs) false) i after out = fieldsL (fieldW f ++ lineW fs false) (i + 1) false out := by
      unfold fieldsL
      rw [hl, List.length_cons, fieldsF, if_pos (by decide)]
    rw [hstep, fieldsL_field f _ _ _ (h f (by simp)) (lineW_head fs), ih _ _ _ fun g hg => h g (by simp [hg])]
    rw [placeF]
    simp [Nat.add_assoc]
/-- A written line. -/
theorem fieldsS_line (fs : List Fld) (h : ∀ f ∈ fs, okF f = true) : fieldsS (lineW fs true) = (placeF fs 0, 0) := by
  show fieldsL (lineW fs true) 0 false [] = _
  cases fs with
  | nil => rfl
  | cons f fs =>
    have hl : lineW (f :: fs) true = fieldW f ++ lineW fs false := by rw [lineW]; simp
    rw [hl, fieldsL_field f _ _ _ (h f (by simp)) (lineW_head fs), fieldsL_rest _ _ _ _ fun g hg => h g (by simp [hg])]
    rw [placeF]
    simp
theorem placeF_len : ∀ (fs : List Fld) (i : Nat), (placeF fs i).length = fs.length := by
  intro fs
  induction fs with
  | nil => intro i; rfl
  | cons f fs ih => intro i; rw [placeF, List.length_cons, ih, List.length_cons]

theorem subst1_no10 (t : List UInt8) (h : t.all printedB = true) : (10 : UInt8) ∉ subst1 34 [34, 34] t := by
  intro hm
  unfold subst1 at hm
  obtain ⟨b, hb, hx⟩ := List.mem_flatMap.1 hm
  have hp := List.all_eq_true.1 h b hb
  split at hx
  · simp at hx
  · simp at hx; subst hx; revert hp; decide
theorem fieldW_no10 {f : Fld} (h : okF f = true) : (10 : UInt8) ∉ fieldW f := by
  unfold okF at h
  cases hq : f.quoted
  · rw [hq] at h
    simp only [Bool.false_eq_true, if_false] at h
    have hw : fieldW f = f.text := by unfold fieldW; rw [hq, h]; rfl
    rw [hw]
    intro hm
    unfold wordS at h
    simp only [Bool.and_eq_true] at h
    exact (wordB_not (List.all_eq_true.1 h.1 _ hm)).2.2.2 rfl
  · rw [hq] at h
    simp only [if_true] at h
    have hw : fieldW f = quoteS f.text := by unfold fieldW; rw [hq]; rfl
    rw [hw]
    unfold quoteS
    have := subst1_no10 f.text h
    simp [this]
theorem lineW_no10 : ∀ (fs : List Fld) (b : Bool), (∀ f ∈ fs, okF f = true) → (10 : UInt8) ∉ lineW fs b := by
  intro fs
  induction fs with
  | nil => intro b _; simp [lineW]
  | cons f fs ih =>
    intro b h hm
    rw [lineW] at hm
    rcases List.mem_append.1 hm with hm | hm
    · rcases List.mem_append.1 hm with hm | hm
      · split at hm
        · simp at hm
        · simp at hm
      · exact fieldW_no10 (h f (by simp)) hm
    · exact ih false (fun g hg => h g (by simp [hg])) hm
theorem pieces_line (l r : List UInt8) (h : (10 : UInt8) ∉ l) : pieces 10 (l ++ 10 :: r) = l :: pieces 10 r := by
  induction l with
  | nil => simp [pieces]
  | cons b l ih =>
    have hb : b ≠ 10 := fun e => h (by simp [e])
    rw [List.cons_append, pieces, if_neg hb, ih fun hm => h (by simp [hm])]
def okL (x : Lin) : Prop := x.fields ≠ [] ∧ (∀ f ∈ x.fields, okF f = true) ∧ (lineW x.fields true).length ≤ 1000
/-- The lines as they are read back: numbered from n on, each field in its place. -/
def backF : List Lin → Int → List Lin
  | [], _ => []
  | x :: ls, n => ⟨n, placeF x.fields 0⟩ :: backF ls (n + 1)
theorem splitF_back : ∀ (ls : List Lin) (n : Int) (out : List Lin) (ds : List Dia), (∀ x ∈ ls, okL x) → splitF (pieces 10 (writeS ls)) n out ds = (out ++ backF ls n, ds) := by
  intro ls
  induction ls with
  | nil =>
    intro n out ds _
    have : (fieldsS []) = ([], 0) := rfl
    simp [writeS, pieces, splitF, this, backF]
  | cons x ls ih =>
    intro n out ds h
    obtain ⟨h1, h2, h3⟩ := h x (by simp)
    have hw : writeS (x :: ls) = lineW x.fields true ++ 10 :: writeS ls := by
      rw [writeS]; unfold endW
      have : x.fields.isEmpty = false := by simpa using h1
      rw [this]; simp
    rw [hw, pieces_line _ _ (lineW_no10 _ _ h2), splitF, if_neg (by omega), fieldsS_line _ h2]
    have hne : placeF x.fields 0 ≠ [] := fun e => h1 (List.eq_nil_of_length_eq_zero (by rw [← placeF_len x.fields 0, e]; rfl))
    simp only [ne_eq, not_true, if_false, hne, not_false_eq_true, if_true]
    rw [ih _ _ _ fun y hy => h y (by simp [hy]), backF]
    simp
theorem splitS_back (ls : List Lin) (h : ∀ x ∈ ls, okL x) (hl : (writeS ls).length ≤ 262144) : splitS (writeS ls) = (backF ls 1, []) := by
  unfold splitS
  rw [if_neg (by omega), splitF_back _ _ _ _ h]
  simp
end Go.Proofs.YtdgejeiiiholnaaGreatDoor
namespace Go.Proofs.YtdgejeiiiholnaaGreatDoor

theorem indexS_cap : indexS [sCAPTAIN, sKEEPER] sCAPTAIN = 0 := by decide
theorem indexS_kee : indexS [sCAPTAIN, sKEEPER] sKEEPER = 1 := by decide
theorem read_some {n c : Int} {fs : List Fld} {k : Nat} {t : List UInt8} {cc : Int} (h : fs[k]? = some ⟨t, cc, false⟩) :
    (⟨n, fs, k, c, 0, 0⟩ : Cur).read false = (⟨n, fs, k + 1, cc, 0, 0⟩, t, true) := by
  unfold Cur.read
  simp [h]
theorem more_some {n c : Int} {fs : List Fld} {k : Nat} {f : Fld} (h : fs[k]? = some f) : (⟨n, fs, k, c, 0, 0⟩ : Cur).more = true := by
  have := (List.getElem?_eq_some_iff.1 h).1
  unfold Cur.more
  simp [this]
theorem duties_end {m n c : Int} {q : Sqd} {fs : List Fld} {k : Nat} (h : fs[k]? = none) : dutiesS m q ⟨n, fs, k, c, 0, 0⟩ = (q, ⟨n, fs, k, c, 0, 0⟩) := by
  refine dutiesS_end ?_
  have := List.getElem?_eq_none_iff.1 h
  unfold Cur.more
  simp [this]
theorem duties_cap {m n c cc : Int} {q : Sqd} {fs : List Fld} {k : Nat} (h : fs[k]? = some ⟨sCAPTAIN, cc, false⟩) (h0 : q.cap = 0) (h1 : q.kee ≠ m) :
    dutiesS m q ⟨n, fs, k, c, 0, 0⟩ = dutiesS m { q with cap := m } ⟨n, fs, k + 1, cc, 0, 0⟩ := by
  rw [dutiesS_more (more_some h)]
  unfold dutyS Cur.oneOf
  rw [read_some h]
  simp only [if_true, indexS_cap]
  simp [h0, h1]
theorem duties_kee {m n c cc : Int} {q : Sqd} {fs : List Fld} {k : Nat} (h : fs[k]? = some ⟨sKEEPER, cc, false⟩) (h0 : q.kee = 0) :
    dutiesS m q ⟨n, fs, k, c, 0, 0⟩ = dutiesS m { q with kee := m } ⟨n, fs, k + 1, cc, 0, 0⟩ := by
  rw [dutiesS_more (more_some h)]
  unfold dutyS Cur.oneOf
  rw [read_some h]
  simp only [if_true, indexS_kee]
  simp [h0]
theorem close_none {n c : Int} {fs : List Fld} {k : Nat} (h : fs[k]? = none) : (⟨n, fs, k, c, 0, 0⟩ : Cur).close = none := by
  unfold Cur.close
  simp [h]
theorem head_two {n c1 c2 : Int} {kw t : List UInt8} {F : List Fld} (ht : nameS t = true) :
    ((Cur.start ⟨n, ⟨kw, c1, false⟩ :: ⟨t, c2, false⟩ :: F⟩).keyword kw).1.ident = (⟨n, ⟨kw, c1, false⟩ :: ⟨t, c2, false⟩ :: F, 2, c2, 0, 0⟩, t) := by
  have h1 : (Cur.start ⟨n, ⟨kw, c1, false⟩ :: ⟨t, c2, false⟩ :: F⟩).read false = (⟨n, ⟨kw, c1, false⟩ :: ⟨t, c2, false⟩ :: F, 1, c1, 0, 0⟩, kw, true) := read_some (k := 0) rfl
  have h2 : (⟨n, ⟨kw, c1, false⟩ :: ⟨t, c2, false⟩ :: F, 1, c1, 0, 0⟩ : Cur).read false = (⟨n, ⟨kw, c1, false⟩ :: ⟨t, c2, false⟩ :: F, 2, c2, 0, 0⟩, t, true) := read_some (k := 1) rfl
  unfold Cur.keyword
  rw [h1]
  simp only [true_and, ne_eq, not_true, if_false]
  unfold Cur.ident
  rw [h2]
  simp [ht]
theorem side_line {n c1 c2 : Int} {t : List UInt8} (q : Sqd) (ht : nameS t = true) :
    stepS ⟨n, [⟨sSIDE, c1, false⟩, ⟨t, c2, false⟩]⟩ 0 q = ({ q with name := t }, ⟨n, [⟨sSIDE, c1, false⟩, ⟨t, c2, false⟩], 2, c2, 0, 0⟩) := by
  unfold stepS
  rw [if_pos rfl, head_two ht]
theorem player_line {n c1 c2 : Int} {p : List UInt8} {F : List Fld} {i : Nat} (q : Sqd) (hi : i ≠ 0) (hp : nameS p = true) :
    stepS ⟨n, ⟨sPLAYER, c1, false⟩ :: ⟨p, c2, false⟩ :: F⟩ i q = dutiesS ((q.players.length : Int) + 1) { q with players := q.players ++ [p] } ⟨n, ⟨sPLAYER, c1, false⟩ :: ⟨p, c2, false⟩ :: F, 2, c2, 0, 0⟩ := by
  unfold stepS
  rw [if_neg hi]
  unfold playerS
  rw [head_two hp]
/-- What has been read of the side behind the first players. -/
def halfS (q : Sqd) (pre : List (List UInt8)) : Sqd := ⟨q.name, pre, if q.cap ≤ pre.length then q.cap else 0, if q.kee ≤ pre.length then q.kee else 0⟩
theorem players_back (q : Sqd) (hc : 1 ≤ q.cap) (hk : 1 ≤ q.kee) (hc2 : q.cap ≤ q.players.length) (hk2 : q.kee ≤ q.players.length) (hn : ∀ p ∈ q.players, nameS p = true) :
    ∀ (ps pre : List (List UInt8)) (n : Int), q.players = pre ++ ps → linesF (backF (playerLines q ps pre.length) n) (pre.length + 1) (halfS q pre) = .inl q := by
  intro ps
  induction ps with
  | nil =>
    intro pre n hq
    rw [List.append_nil] at hq
    rw [playerLines, backF, linesF]
    unfold halfS
    rw [← hq, if_pos hc2, if_pos hk2]
  | cons p ps ih =>
    intro pre n hq
    have hp : nameS p = true := hn p (by rw [hq]; simp)
    have hih := ih (pre ++ [p]) (n + 1) (by rw [hq]; simp)
    rw [List.length_append, List.length_singleton] at hih
    rw [playerLines, backF]
    have key : ∃ c, stepS ⟨n, placeF (playerLine q pre.length p).fields 0⟩ (pre.length + 1) (halfS q pre) = (halfS q (pre ++ [p]), c) ∧ c.close = none := by
      have hl : ((halfS q pre).players.length : Int) = pre.length := rfl
      unfold playerLine
      by_cases h1 : (pre.length : Int) + 1 = q.cap <;> by_cases h2 : (pre.length : Int) + 1 = q.kee
      · rw [if_pos h1, if_pos h2]
        simp only [List.append_assoc, List.cons_append, List.nil_append, wordF, placeF]
        rw [player_line _ (by omega) hp, hl, duties_cap rfl (by show (if _ then _ else _) = _; rw [if_neg (by omega)]) (by show (if _ then _ else _) ≠ _; rw [if_neg (by omega)]; omega),
          duties_kee rfl (by show (if _ then _ else _) = _; rw [if_neg (by omega)]), duties_end rfl]
        refine ⟨_, Prod.ext ?_ rfl, close_none rfl⟩
        unfold halfS
        simp only [List.length_append, List.length_singleton, Sqd.mk.injEq, true_and]
        rw [if_pos (by omega), if_pos (by omega)]
        exact ⟨h1, h2⟩
      · rw [if_pos h1, if_neg h2]
        simp only [List.append_assoc, List.cons_append, List.nil_append, wordF, placeF]
        rw [player_line _ (by omega) hp, hl, duties_cap rfl (by show (if _ then _ else _) = _; rw [if_neg (by omega)]) (by show (if _ then _ else _) ≠ _; split <;> omega), duties_end rfl]
        refine ⟨_, Prod.ext ?_ rfl, close_none rfl⟩
        unfold halfS
        simp only [List.length_append, List.length_singleton, Sqd.mk.injEq, true_and]
        rw [if_pos (by omega)]
        refine ⟨h1, ?_⟩
        by_cases h3 : q.kee ≤ (pre.length : Int)
        · rw [if_pos h3, if_pos (by omega)]
        · rw [if_neg h3, if_neg (by omega)]
      · rw [if_neg h1, if_pos h2]
        simp only [List.append_assoc, List.cons_append, List.nil_append, wordF, placeF]
        rw [player_line _ (by omega) hp, hl, duties_kee rfl (by show (if _ then _ else _) = _; rw [if_neg (by omega)]), duties_end rfl]
        refine ⟨_, Prod.ext ?_ rfl, close_none rfl⟩
        unfold halfS
        simp only [List.length_append, List.length_singleton, Sqd.mk.injEq, true_and]
        rw [if_pos (show q.kee ≤ _ by omega)]
        refine ⟨?_, h2⟩
        by_cases h3 : q.cap ≤ (pre.length : Int)
        · rw [if_pos h3, if_pos (by omega)]
        · rw [if_neg h3, if_neg (by omega)]
      · rw [if_neg h1, if_neg h2]
        simp only [List.append_assoc, List.cons_append, List.nil_append, wordF, placeF]
        rw [player_line _ (by omega) hp, hl, duties_end rfl]
        refine ⟨_, Prod.ext ?_ rfl, close_none rfl⟩
        unfold halfS
        simp only [List.length_append, List.length_singleton, Sqd.mk.injEq, true_and]
        constructor
        · by_cases h3 : q.cap ≤ (pre.length : Int)
          · rw [if_pos h3, if_pos (by omega)]
          · rw [if_neg h3, if_neg (by omega)]
        · by_cases h3 : q.kee ≤ (pre.length : Int)
          · rw [if_pos h3, if_pos (by omega)]
          · rw [if_neg h3, if_neg (by omega)]
    obtain ⟨c, hs, hcl⟩ := key
    rw [linesF_ok hs hcl]
    exact hih
theorem word_of_name {t : List UInt8} (h : nameS t = true) : wordS t = true := by
  cases t with
  | nil => simp [nameS] at h
  | cons c l =>
    simp only [nameS, Bool.and_eq_true, decide_eq_true_eq] at h
    have hw : ∀ x, tailB x = true → wordB x = true := by
      intro x hx
      unfold tailB letterB at hx
      unfold wordB
      simp only [Bool.or_eq_true, Bool.and_eq_true, decide_eq_true_eq, beq_iff_eq, UInt8.le_iff_toNat_le, UInt8.lt_iff_toNat_lt, bne_iff_ne, ne_eq, ← UInt8.toNat_inj] at hx ⊢
      have e1 : (65 : UInt8).toNat = 65 := rfl
      have e2 : (90 : UInt8).toNat = 90 := rfl
      have e3 : (95 : UInt8).toNat = 95 := rfl
      have e4 : (45 : UInt8).toNat = 45 := rfl
      have e5 : (48 : UInt8).toNat = 48 := rfl
      have e6 : (57 : UInt8).toNat = 57 := rfl
      have e7 : (32 : UInt8).toNat = 32 := rfl
      have e8 : (126 : UInt8).toNat = 126 := rfl
      have e9 : (34 : UInt8).toNat = 34 := rfl
      have e10 : (59 : UInt8).toNat = 59 := rfl
      omega
    have hc : tailB c = true := by unfold tailB; rw [h.1.1]; rfl
    unfold wordS
    rw [List.all_cons, hw c hc, Bool.true_and, Bool.and_eq_true]
    exact ⟨List.all_eq_true.2 fun x hx => hw x (List.all_eq_true.1 h.1.2 x hx), by simp⟩
theorem okF_word {t : List UInt8} (h : wordS t = true) : okF (wordF t) = true := by unfold okF wordF; simpa using h
theorem fieldW_word {t : List UInt8} (h : wordS t = true) : fieldW (wordF t) = t := by unfold fieldW wordF; simp [h]
theorem playerLine_ok (q : Sqd) (i : Nat) {p : List UInt8} (h : nameS p = true) : okL (playerLine q i p) ∧ (lineW (playerLine q i p).fields true).length ≤ 39 := by
  have hw := word_of_name h
  have h16 := (nameS_ne h).2
  have e1 : wordS sPLAYER = true := by decide
  have e2 : wordS sCAPTAIN = true := by decide
  have e3 : wordS sKEEPER = true := by decide
  have l1 : sPLAYER.length = 6 := rfl
  have l2 : sCAPTAIN.length = 7 := rfl
  have l3 : sKEEPER.length = 6 := rfl
  have hlen : (lineW (playerLine q i p).fields true).length ≤ 39 := by
    unfold playerLine
    split <;> split
    all_goals simp only [List.append_assoc, List.cons_append, List.nil_append, lineW, fieldW_word hw, fieldW_word e1, fieldW_word e2, fieldW_word e3, if_true, Bool.false_eq_true, if_false, List.append_nil, List.length_append, List.length_cons, List.length_nil, l1, l2, l3]
    all_goals omega
  refine ⟨⟨by unfold playerLine; simp, fun f hf => ?_, by omega⟩, hlen⟩
  unfold playerLine at hf
  simp only [List.mem_append, List.mem_cons, List.not_mem_nil, or_false] at hf
  rcases hf with ((rfl | rfl) | hf) | hf
  · exact okF_word e1
  · exact okF_word hw
  · split at hf
    · simp only [List.mem_cons, List.not_mem_nil, or_false] at hf; subst hf; exact okF_word e2
    · simp at hf
  · split at hf
    · simp only [List.mem_cons, List.not_mem_nil, or_false] at hf; subst hf; exact okF_word e3
    · simp at hf
theorem playerLines_ok (q : Sqd) : ∀ (ps : List (List UInt8)) (i : Nat), (∀ p ∈ ps, nameS p = true) → (∀ x ∈ playerLines q ps i, okL x) ∧ (writeS (playerLines q ps i)).length ≤ 40 * ps.length := by
  intro ps
  induction ps with
  | nil => intro i _; simp [playerLines, writeS]
  | cons p ps ih =>
    intro i h
    obtain ⟨h1, h2⟩ := playerLine_ok q i (h p (by simp))
    obtain ⟨h3, h4⟩ := ih (i + 1) fun p hp => h p (by simp [hp])
    rw [playerLines]
    refine ⟨fun x hx => ?_, ?_⟩
    · rcases List.mem_cons.1 hx with rfl | hx
      · exact h1
      · exact h3 x hx
    · rw [writeS]
      have : (endW (playerLine q i p).fields).length ≤ 1 := by unfold endW; split <;> simp
      simp only [List.length_append, List.length_cons]
      omega
theorem sqLines_ok {q : Sqd} (h : checkS q = 0) : (∀ x ∈ sqLines q, okL x) ∧ (writeS (sqLines q)).length ≤ 462 := by
  obtain ⟨h1, h2, h3, h4, _⟩ := checkS_ok h
  obtain ⟨k1, k2⟩ := playerLines_ok q q.players 0 h4
  have hw := word_of_name h1
  have h16 := (nameS_ne h1).2
  have e1 : wordS sSIDE = true := by decide
  have l1 : sSIDE.length = 4 := rfl
  have hlen : (lineW [wordF sSIDE, wordF q.name] true).length ≤ 21 := by
    simp only [lineW, fieldW_word hw, fieldW_word e1, if_true, Bool.false_eq_true, if_false, List.append_nil, List.nil_append, List.length_append, List.length_cons, List.length_nil, l1]
    omega
  unfold sqLines
  refine ⟨fun x hx => ?_, ?_⟩
  · rcases List.mem_cons.1 hx with rfl | hx
    · refine ⟨by simp, fun f hf => ?_, by simp only; omega⟩
      simp only [List.mem_cons, List.not_mem_nil, or_false] at hf
      rcases hf with rfl | rfl
      · exact okF_word e1
      · exact okF_word hw
    · exact k1 x hx
  · rw [writeS]
    have : (endW [wordF sSIDE, wordF q.name]).length ≤ 1 := by unfold endW; split <;> simp
    simp only [List.length_append] at *
    omega
/-- A side that is accepted is read back from its text. -/
theorem parse_back {q : Sqd} (h : checkS q = 0) : parseS (writeS (sqLines q)) = (q, []) := by
  obtain ⟨k1, k2⟩ := sqLines_ok h
  obtain ⟨h1, h2, h3, h4, h5, h6, h7⟩ := checkS_ok h
  have hc := titleS_in h6
  have hk := titleS_in h7
  unfold parseS
  rw [splitS_back _ k1 (by omega)]
  have hl : linesF (backF (sqLines q) 1) 0 noSqd = .inl q := by
    unfold sqLines
    rw [backF]
    simp only [wordF, placeF]
    rw [linesF_ok (side_line noSqd h1) (close_none rfl)]
    have := players_back q hc.1 hk.1 hc.2 hk.2 h4 q.players [] (1 + 1) rfl
    have hh : halfS q [] = { noSqd with name := q.name } := by
      unfold halfS noSqd
      simp only [List.length_nil, Sqd.mk.injEq, true_and]
      exact ⟨by rw [if_neg (by simp; omega)], by rw [if_neg (by simp; omega)]⟩
    rw [hh] at this
    exact this
  have hne : backF (sqLines q) 1 ≠ [] := by unfold sqLines; rw [backF]; simp
  simp only [ne_eq, not_true, if_false, hne]
  rw [hl]
  simp [h]
theorem parseS_ok {s : List UInt8} (h : (parseS s).2 = []) : checkS (parseS s).1 = 0 := by
  unfold parseS at h ⊢
  split
  · rename_i h1; rw [if_pos h1] at h; exact absurd h h1
  · rename_i h1
    rw [if_neg h1] at h
    split
    · rename_i h2; rw [if_pos h2] at h; simp at h
    · rename_i h2
      rw [if_neg h2] at h
      split
      · rename_i d hd; rw [hd] at h; simp at h
      · rename_i q hq
        rw [hq] at h
        simp only at h
        split
        · rename_i h3; rw [if_pos h3] at h; simp at h
        · rename_i h3; exact Classical.byContradiction h3
theorem parseS_bad {s : List UInt8} (h : (parseS s).2 ≠ []) : (parseS s).1 = noSqd ∧ (parseS s).2.length ≤ 50 := by
  have hok := (splitS_ok s).2.2
  unfold parseS at h ⊢
  split
  · exact ⟨rfl, hok⟩
  · split
    · exact ⟨rfl, by simp⟩
    · split
      · exact ⟨rfl, by simp⟩
      · split
        · exact ⟨rfl, by simp⟩
        · rename_i h1 h2 _ q hq h3
          rw [if_neg h1, if_neg h2, hq] at h
          simp only at h
          rw [if_neg h3] at h
          simp at h
end Go.Proofs.YtdgejeiiiholnaaGreatDoor
