/- Plain laws of chance: a distribution as weights at sixteen keys; Norm, merged of a sorted list or gathered key by key. -/
import Derived.Test.YtfnfbojaiikigaaGreatDoorP51
set_option linter.unusedSimpArgs false
set_option linter.unusedVariables false
namespace Go.Proofs.YtfnfbojaiikigaaGreatDoor

/-- The key of an outcome: twice its runs, one more with a wicket. -/
def keyO (o : Otc) : Nat := 2 * o.runs.toNat + (if o.wick = true then 1 else 0)
/-- The weight of a list at a key. -/
def wAt (l : List Otc) (j : Nat) : Int := sumI (l.map fun o => if keyO o = j then o.wt else 0)
def otcOf (j : Nat) (x : Int) : Otc := ⟨((j / 2 : Nat) : Int), decide (j % 2 = 1), x⟩
def canonF (f : Nat → Int) : Nat → Nat → List Otc
  | 0, _ => []
  | m + 1, i => (if 0 < f i then [otcOf i (f i)] else []) ++ canonF f m (i + 1)
/-- The distribution with the weights f at the keys. -/
def canon (f : Nat → Int) : List Otc := canonF f 16 0
def badN (o : Otc) : Bool := decide (o.runs < 0) || decide (7 < o.runs) || decide (o.wt < 0) || decide (16 < o.wt)
def normS (d : List Otc) : List Otc × Int :=
  if 64 < d.length then ([], 9) else if d.any badN = true then ([], 2) else if sumI (d.map (·.wt)) ≠ 16 then ([], 12) else (canon (wAt d), 0)
structure OkN (o : Otc) : Prop where
  r0 : 0 ≤ o.runs
  r7 : o.runs ≤ 7
  w0 : 0 ≤ o.wt
  w16 : o.wt ≤ 16
theorem badN_no {o : Otc} (h : badN o = false) : OkN o := by
  unfold badN at h
  simp only [Bool.or_eq_false_iff, decide_eq_false_iff_not] at h
  exact ⟨by omega, by omega, by omega, by omega⟩
theorem okN_good {o : Otc} (h : OkN o) : badN o = false := by
  have := h.r0; have := h.r7; have := h.w0; have := h.w16
  unfold badN
  simp only [Bool.or_eq_false_iff, decide_eq_false_iff_not]
  omega
theorem OkO.n {o : Otc} (h : OkO o) : OkN o := ⟨h.r0, h.r7, by have := h.w1; omega, h.w16⟩
theorem key_lt {o : Otc} (h : OkN o) : keyO o < 16 := by
  have := h.r0; have := h.r7
  unfold keyO
  split <;> omega
theorem key_runs {o : Otc} (h : 0 ≤ o.runs) : o.runs = ((keyO o / 2 : Nat) : Int) ∧ o.wick = decide (keyO o % 2 = 1) := by
  unfold keyO
  cases hw : o.wick <;> simp <;> omega
theorem otcOf_key {o : Otc} (h : 0 ≤ o.runs) : otcOf (keyO o) o.wt = o := by
  obtain ⟨r, w, x⟩ := o
  have := key_runs (o := ⟨r, w, x⟩) h
  unfold otcOf
  simp only at this
  rw [← this.1, ← this.2]
theorem key_otcOf (j : Nat) (x : Int) : keyO (otcOf j x) = j := by
  unfold keyO otcOf
  by_cases h : j % 2 = 1 <;> simp [h] <;> omega
theorem key_eq {a b : Otc} (ha : 0 ≤ a.runs) (hb : 0 ≤ b.runs) : keyO a = keyO b ↔ a.runs = b.runs ∧ a.wick = b.wick := by
  unfold keyO
  constructor
  · intro h
    cases hw : a.wick <;> cases hv : b.wick <;> rw [hw, hv] at h <;> simp at h <;> refine ⟨?_, ?_⟩ <;> first | rfl | omega | (exfalso; omega)
  · rintro ⟨h1, h2⟩; rw [h1, h2]
theorem ord_key {a b : Otc} (ha : 0 ≤ a.runs) (hb : 0 ≤ b.runs) : (ordS a b < 0 ↔ keyO a < keyO b) ∧ (ordS a b = 0 ↔ keyO a = keyO b) := by
  unfold ordS keyO
  by_cases h : a.runs = b.runs
  · rw [if_neg (by simpa using h), h]
    cases hw : a.wick <;> cases hv : b.wick <;> simp
  · rw [if_pos h]
    by_cases h2 : a.runs < b.runs
    · rw [if_pos h2]
      cases hw : a.wick <;> cases hv : b.wick <;> simp <;> omega
    · rw [if_neg h2]
      cases hw : a.wick <;> cases hv : b.wick <;> simp <;> omega
theorem bef_key {a b : Otc} (ha : 0 ≤ a.runs) (hb : 0 ≤ b.runs) : befB a b = decide (keyO a < keyO b) := by
  unfold befB
  rw [Bool.eq_iff_iff, decide_eq_true_eq, decide_eq_true_eq]
  exact (ord_key ha hb).1
theorem wAt_nil (j : Nat) : wAt [] j = 0 := rfl
theorem wAt_cons (o : Otc) (l : List Otc) (j : Nat) : wAt (o :: l) j = (if keyO o = j then o.wt else 0) + wAt l j := rfl
theorem wAt_app (l m : List Otc) (j : Nat) : wAt (l ++ m) j = wAt l j + wAt m j := by unfold wAt; rw [List.map_append, sumI_app]
theorem wAt_none {l : List Otc} {j : Nat} (h : ∀ o ∈ l, keyO o ≠ j) : wAt l j = 0 := by
  induction l with
  | nil => rfl
  | cons o l ih => rw [wAt_cons, if_neg (h o (by simp)), ih fun x hx => h x (by simp [hx])]; rfl
theorem wAt_nonneg {l : List Otc} (h : ∀ o ∈ l, 0 ≤ o.wt) (j : Nat) : 0 ≤ wAt l j := by
  induction l with
  | nil => exact Int.le_refl _
  | cons o l ih =>
    have h1 := ih fun x hx => h x (by simp [hx])
    have h2 := h o (by simp)
    rw [wAt_cons]; split <;> omega
theorem sumI_perm {l m : List Int} (h : l.Perm m) : sumI l = sumI m := by
  induction h with
  | nil => rfl
  | cons x _ ih => rw [sumI_cons, sumI_cons, ih]
  | swap x y l => simp only [sumI_cons]; omega
  | trans _ _ h1 h2 => rw [h1, h2]
theorem wAt_perm {l m : List Otc} (h : l.Perm m) (j : Nat) : wAt l j = wAt m j := sumI_perm (h.map _)
theorem canonF_congr {f g : Nat → Int} : ∀ m i, (∀ j, i ≤ j → j < i + m → f j = g j) → canonF f m i = canonF g m i
  | 0, _, _ => rfl
  | m + 1, i, h => by
    rw [canonF, canonF, h i (Nat.le_refl _) (by omega), canonF_congr m (i + 1) fun j h1 h2 => h j (by omega) (by omega)]
theorem canon_congr {f g : Nat → Int} (h : ∀ j, j < 16 → f j = g j) : canon f = canon g := canonF_congr 16 0 fun j _ h2 => h j (by omega)
/-- Strictly ascending keys, weights above 0. -/
structure Neat (l : List Otc) : Prop where
  asc : l.Pairwise fun a b => keyO a < keyO b
  each : ∀ o ∈ l, 0 ≤ o.runs ∧ o.runs ≤ 7 ∧ 0 < o.wt
theorem canonF_neat : ∀ (m i : Nat) (l : List Otc), i + m = 16 → Neat l → (∀ o ∈ l, i ≤ keyO o) → canonF (wAt l) m i = l := by
  intro m
  induction m with
  | zero =>
    intro i l him hn hi
    cases l with
    | nil => rfl
    | cons o l =>
      have h1 := hi o (by simp)
      have h2 := hn.each o (by simp)
      have h3 := key_lt (o := o) ⟨h2.1, h2.2.1, by omega, by
        exfalso
        have : keyO o < 16 := by unfold keyO; split <;> omega
        omega⟩
      omega
  | succ m ih =>
    intro i l him hn hi
    cases l with
    | nil =>
      rw [canonF, wAt_nil, if_neg (by omega), List.nil_append]
      exact ih (i + 1) [] (by omega) hn (by simp)
    | cons o l =>
      have ho := hn.each o (by simp)
      have hp := List.pairwise_cons.1 hn.asc
      have hl : Neat l := ⟨hp.2, fun x hx => hn.each x (by simp [hx])⟩
      by_cases hk : keyO o = i
      · have hz : wAt l i = 0 := wAt_none fun x hx => by have := hp.1 x hx; omega
        rw [canonF, wAt_cons, if_pos hk, hz, Int.add_zero, if_pos ho.2.2, ← hk, otcOf_key ho.1, canonF_congr (g := wAt l) m (keyO o + 1) fun j h1 h2 => by rw [wAt_cons, if_neg (by omega), Int.zero_add]]
        rw [ih (keyO o + 1) l (by omega) hl fun x hx => hp.1 x hx]
        rfl
      · have hlt : i < keyO o := by have := hi o (by simp); omega
        have hz : wAt (o :: l) i = 0 := wAt_none fun x hx => by
          rcases List.mem_cons.1 hx with rfl | hx
          · exact hk
          · have := hp.1 x hx; omega
        rw [canonF, hz, if_neg (by omega), List.nil_append]
        exact ih (i + 1) (o :: l) (by omega) hn fun x hx => by
          rcases List.mem_cons.1 hx with rfl | hx
          · omega
          · have := hp.1 x hx; omega
theorem canon_neat {l : List Otc} (h : Neat l) : canon (wAt l) = l := canonF_neat 16 0 l rfl h fun _ _ => Nat.zero_le _
theorem canonF_mem {f : Nat → Int} : ∀ (m i : Nat), ∀ o ∈ canonF f m i, i ≤ keyO o ∧ keyO o < i + m ∧ o = otcOf (keyO o) (f (keyO o)) ∧ 0 < o.wt
  | 0, _, o, h => by cases h
  | m + 1, i, o, h => by
    rw [canonF, List.mem_append] at h
    rcases h with h | h
    · by_cases hf : 0 < f i
      · rw [if_pos hf, List.mem_singleton] at h
        subst h
        rw [key_otcOf]
        exact ⟨Nat.le_refl _, by omega, rfl, hf⟩
      · rw [if_neg hf] at h; cases h
    · have := canonF_mem m (i + 1) o h
      exact ⟨by omega, by omega, this.2.2⟩
theorem canonF_asc {f : Nat → Int} : ∀ (m i : Nat), (canonF f m i).Pairwise fun a b => keyO a < keyO b
  | 0, _ => List.Pairwise.nil
  | m + 1, i => by
    rw [canonF, List.pairwise_append]
    refine ⟨?_, canonF_asc m (i + 1), ?_⟩
    · split
      · exact List.pairwise_singleton _ _
      · exact List.Pairwise.nil
    · intro a ha b hb
      have h2 := canonF_mem m (i + 1) b hb
      by_cases hf : 0 < f i
      · rw [if_pos hf, List.mem_singleton] at ha
        subst ha
        rw [key_otcOf]; omega
      · rw [if_neg hf] at ha; cases ha
theorem canon_Neat (f : Nat → Int) : Neat (canon f) := by
  refine ⟨canonF_asc 16 0, fun o ho => ?_⟩
  have h := canonF_mem 16 0 o ho
  have h2 : o.runs = ((keyO o / 2 : Nat) : Int) := by
    have := congrArg Otc.runs h.2.2.1
    exact this
  exact ⟨by omega, by omega, h.2.2.2⟩
def sumK (f : Nat → Int) : Nat → Nat → Int
  | 0, _ => 0
  | m + 1, i => f i + sumK f m (i + 1)
theorem sumK_congr {f g : Nat → Int} : ∀ m i, (∀ j, i ≤ j → j < i + m → f j = g j) → sumK f m i = sumK g m i
  | 0, _, _ => rfl
  | m + 1, i, h => by rw [sumK, sumK, h i (Nat.le_refl _) (by omega), sumK_congr m (i + 1) fun j h1 h2 => h j (by omega) (by omega)]
theorem sumK_add (f g : Nat → Int) : ∀ m i, sumK (fun j => f j + g j) m i = sumK f m i + sumK g m i
  | 0, _ => rfl
  | m + 1, i => by rw [sumK, sumK, sumK, sumK_add f g m (i + 1)]; omega
theorem sumK_one (k : Nat) (x : Int) : ∀ m i, sumK (fun j => if k = j then x else 0) m i = if i ≤ k ∧ k < i + m then x else 0
  | 0, i => by rw [sumK, if_neg (by omega)]
  | m + 1, i => by
    rw [sumK, sumK_one k x m (i + 1)]
    by_cases h : k = i
    · subst h; rw [if_pos rfl, if_neg (by omega), if_pos (by omega)]; omega
    · rw [if_neg h, Int.zero_add]
      by_cases h2 : i + 1 ≤ k ∧ k < i + 1 + m
      · rw [if_pos h2, if_pos (by omega)]
      · rw [if_neg h2, if_neg (by omega)]
theorem sumK_zero : ∀ m i, sumK (fun _ => 0) m i = 0
  | 0, _ => rfl
  | m + 1, i => by rw [sumK, sumK_zero m (i + 1)]; rfl
/-- The weights at the keys add up to the weights of the list. -/
theorem sumK_wAt : ∀ (l : List Otc), (∀ o ∈ l, 0 ≤ o.runs ∧ o.runs ≤ 7) → sumK (wAt l) 16 0 = sumI (l.map (·.wt))
  | [], _ => sumK_zero 16 0
  | o :: l, h => by
    have ho := h o (by simp)
    have hk : keyO o < 16 := by unfold keyO; split <;> omega
    have e : sumK (wAt (o :: l)) 16 0 = sumK (fun j => (if keyO o = j then o.wt else 0) + wAt l j) 16 0 := sumK_congr _ _ fun j _ _ => wAt_cons o l j
    rw [e, sumK_add, sumK_one, if_pos (by omega), sumK_wAt l fun x hx => h x (by simp [hx]), List.map_cons, sumI_cons]
theorem sumI_canonF {f : Nat → Int} : ∀ (m i : Nat), (∀ j, i ≤ j → j < i + m → 0 ≤ f j) → sumI ((canonF f m i).map (·.wt)) = sumK f m i
  | 0, _, _ => rfl
  | m + 1, i, h => by
    have h0 := h i (Nat.le_refl _) (by omega)
    rw [canonF, List.map_append, sumI_app, sumI_canonF m (i + 1) fun j h1 h2 => h j (by omega) (by omega), sumK]
    by_cases hf : 0 < f i
    · rw [if_pos hf]; simp [otcOf, sumI_cons, sumI_nil]
    · rw [if_neg hf, List.map_nil, sumI_nil]; omega
theorem canonF_len {f : Nat → Int} : ∀ (m i : Nat), (canonF f m i).length ≤ m
  | 0, _ => Nat.le_refl _
  | m + 1, i => by
    have := canonF_len (f := f) m (i + 1)
    rw [canonF, List.length_append]
    split <;> simp <;> omega
theorem wAt_canonF {f : Nat → Int} : ∀ (m i : Nat), (∀ j, i ≤ j → j < i + m → 0 ≤ f j) → ∀ k, wAt (canonF f m i) k = if i ≤ k ∧ k < i + m then f k else 0
  | 0, i, _, k => by rw [canonF, wAt_nil, if_neg (by omega)]
  | m + 1, i, h, k => by
    have h0 := h i (Nat.le_refl _) (by omega)
    rw [canonF, wAt_app, wAt_canonF m (i + 1) (fun j h1 h2 => h j (by omega) (by omega)) k]
    by_cases hf : 0 < f i
    · rw [if_pos hf, wAt_cons, wAt_nil, key_otcOf]
      by_cases hk : i = k
      · subst hk; rw [if_pos rfl, if_neg (by omega), if_pos (by omega)]; simp [otcOf]
      · rw [if_neg hk]
        by_cases h2 : i + 1 ≤ k ∧ k < i + 1 + m
        · rw [if_pos h2, if_pos (by omega)]; omega
        · rw [if_neg h2, if_neg (by omega)]; omega
    · rw [if_neg hf, wAt_nil]
      by_cases hk : i = k
      · subst hk; rw [if_neg (by omega), if_pos (by omega)]; omega
      · by_cases h2 : i + 1 ≤ k ∧ k < i + 1 + m
        · rw [if_pos h2, if_pos (by omega)]; omega
        · rw [if_neg h2, if_neg (by omega)]; omega
theorem wAt_canon {f : Nat → Int} (h : ∀ j, j < 16 → 0 ≤ f j) {k : Nat} (hk : k < 16) : wAt (canon f) k = f k := by
  unfold canon
  rw [wAt_canonF 16 0 (fun j _ h2 => h j (by omega)), if_pos (by omega)]
theorem sumK_pos {f : Nat → Int} : ∀ m i, (∀ j, i ≤ j → j < i + m → 0 ≤ f j) → 0 ≤ sumK f m i ∧ ∀ j, i ≤ j → j < i + m → f j ≤ sumK f m i
  | 0, _, _ => ⟨Int.le_refl _, fun j h1 h2 => by omega⟩
  | m + 1, i, h => by
    have h0 := h i (Nat.le_refl _) (by omega)
    obtain ⟨h1, h2⟩ := sumK_pos m (i + 1) fun j h1 h2 => h j (by omega) (by omega)
    rw [sumK]
    refine ⟨by omega, fun j h3 h4 => ?_⟩
    by_cases hj : j = i
    · subst hj; omega
    · have := h2 j (by omega) (by omega); omega
/-- A neat list whose weights add up to 16 is accepted. -/
theorem otcsF_neat : ∀ (l : List Otc) (p : Option Otc) (s : Int), l.Pairwise (fun a b => keyO a < keyO b) → (∀ o ∈ l, OkO o) → (∀ q, p = some q → 0 ≤ q.runs ∧ ∀ o ∈ l, keyO q < keyO o) → s + sumI (l.map (·.wt)) = 16 → otcsF p s l = 0
  | [], p, s, _, _, _, h => by
    rw [List.map_nil, sumI_nil] at h
    rw [otcsF, if_pos (by omega)]
  | o :: l, p, s, hp, ho, hq, h => by
    have hp' := List.pairwise_cons.1 hp
    have h1 := ho o (by simp)
    have hb : badO o = false := by
      have := h1.r0; have := h1.r7; have := h1.w1; have := h1.w16
      unfold badO
      simp only [Bool.or_eq_false_iff, decide_eq_false_iff_not]
      omega
    have he : otcErr p o = 0 := by
      cases p with
      | none => exact otcErr_none hb
      | some q =>
        obtain ⟨hq0, hq1⟩ := hq q rfl
        rw [otcErr_some hb, bef_key hq0 h1.r0, if_pos (decide_eq_true (hq1 o (by simp)))]
    rw [List.map_cons, sumI_cons] at h
    rw [otcsF, he, if_neg (by simp)]
    exact otcsF_neat l (some o) (s + o.wt) hp'.2 (fun x hx => ho x (by simp [hx])) (fun q e => by cases e; exact ⟨h1.r0, hp'.1⟩) (by omega)
theorem canon_ok {f : Nat → Int} (h : ∀ j, j < 16 → 0 ≤ f j) (hs : sumK f 16 0 = 16) : checkD (canon f) = 0 := by
  have hn := canon_Neat f
  have hsum : sumI ((canon f).map (·.wt)) = 16 := by unfold canon; rw [sumI_canonF 16 0 fun j _ h2 => h j (by omega)]; exact hs
  have hlen : (canon f).length ≤ 16 := canonF_len 16 0
  have hne : (canon f).length ≠ 0 := fun e => by
    rw [List.length_eq_zero_iff] at e
    rw [e, List.map_nil, sumI_nil] at hsum
    omega
  unfold checkD
  rw [if_neg hne, if_neg (by omega)]
  refine otcsF_neat _ none 0 hn.asc (fun o ho => ?_) (fun q e => by cases e) (by omega)
  have h1 := hn.each o ho
  refine ⟨h1.1, h1.2.1, by omega, ?_⟩
  have h2 := canonF_mem 16 0 o ho
  have h3 : o.wt = f (keyO o) := congrArg Otc.wt h2.2.2.1
  have h4 := (sumK_pos 16 0 fun j _ h2 => h j (by omega)).2 (keyO o) (by omega) (by omega)
  omega
/-- An accepted distribution is neat. -/
theorem otcsF_asc : ∀ (l : List Otc) (p : Option Otc) (s : Int), otcsF p s l = 0 → (∀ q, p = some q → 0 ≤ q.runs) → (l.Pairwise fun a b => keyO a < keyO b) ∧ ∀ q, p = some q → ∀ o ∈ l, keyO q < keyO o
  | [], p, s, _, _ => ⟨List.Pairwise.nil, fun _ _ o ho => by cases ho⟩
  | o :: l, p, s, h, hp => by
    rw [otcsF] at h
    by_cases he : otcErr p o = 0
    · rw [if_neg (by simpa using he)] at h
      have hb : badO o = false := by
        rcases hbb : badO o with _ | _
        · rfl
        · rw [otcErr_bad hbb] at he; omega
      have ho := badO_no hb
      obtain ⟨h1, h2⟩ := otcsF_asc l (some o) _ h fun q e => by cases e; exact ho.r0
      have h3 := h2 o rfl
      refine ⟨List.pairwise_cons.2 ⟨h3, h1⟩, fun q e x hx => ?_⟩
      subst e
      have hq := hp q rfl
      rw [otcErr_some hb, bef_key hq ho.r0] at he
      have hlt : keyO q < keyO o := by
        by_cases hlt : keyO q < keyO o
        · exact hlt
        · rw [decide_eq_false hlt] at he; simp at he
      rcases List.mem_cons.1 hx with rfl | hx
      · exact hlt
      · exact Nat.lt_trans hlt (h3 x hx)
    · rw [if_pos he] at h
      exact absurd h he
theorem checkD_neat {d : List Otc} (h : checkD d = 0) : Neat d := by
  have ho := checkD_ok h
  unfold checkD at h
  rw [if_neg (by have := ho.len; omega), if_neg (by have := ho.len; omega)] at h
  refine ⟨(otcsF_asc d none 0 h fun q e => by cases e).1, fun o hx => ?_⟩
  have := ho.each o hx
  exact ⟨this.r0, this.r7, by have := this.w1; omega⟩
theorem checkD_canon {d : List Otc} (h : checkD d = 0) : canon (wAt d) = d := canon_neat (checkD_neat h)
/-- The program's Norm: the sorted list merged. -/
def mergeF : List Otc → List Otc → List Otc
  | out, [] => out
  | out, o :: l => if o.wt = 0 then mergeF out l else match out.getLast? with
    | none => mergeF (out ++ [o]) l
    | some p => if ordS p o = 0 then mergeF (out.dropLast ++ [{ p with wt := p.wt + o.wt }]) l else mergeF (out ++ [o]) l
theorem wAt_last {out : List Otc} {p : Otc} (h : out.getLast? = some p) (x : Int) (j : Nat) : wAt (out.dropLast ++ [{ p with wt := p.wt + x }]) j = wAt out j + if keyO p = j then x else 0 := by
  have e : out = out.dropLast ++ [p] := by
    have hne : out ≠ [] := fun e => by rw [e] at h; cases h
    rw [List.getLast?_eq_some_getLast hne] at h
    have h' := Option.some.inj h
    conv => lhs; rw [← List.dropLast_concat_getLast hne]
    rw [h']
  conv => rhs; rw [e]
  rw [wAt_app, wAt_app, wAt_cons, wAt_cons, wAt_nil, show keyO { p with wt := p.wt + x } = keyO p from rfl]
  by_cases hk : keyO p = j
  · rw [if_pos hk, if_pos hk, if_pos hk]; simp only; omega
  · rw [if_neg hk, if_neg hk, if_neg hk]; omega
theorem mergeF_neat : ∀ (l out : List Otc), (∀ o ∈ l, OkN o) → (l.Pairwise fun a b => keyO a ≤ keyO b) → Neat out → (∀ a ∈ out, ∀ o ∈ l, keyO a ≤ keyO o) →
    Neat (mergeF out l) ∧ ∀ j, wAt (mergeF out l) j = wAt out j + wAt l j
  | [], out, _, _, hn, _ => ⟨hn, fun j => by rw [mergeF, wAt_nil, Int.add_zero]⟩
  | o :: l, out, ho, hs, hn, hle => by
    have hs' := List.pairwise_cons.1 hs
    have ho1 := ho o (by simp)
    have hol := fun x hx => ho x (List.mem_cons_of_mem o hx)
    have hll := fun a ha x hx => hle a ha x (List.mem_cons_of_mem o hx)
    by_cases h0 : o.wt = 0
    · rw [mergeF, if_pos h0]
      obtain ⟨h1, h2⟩ := mergeF_neat l out hol hs'.2 hn hll
      exact ⟨h1, fun j => by rw [h2, wAt_cons, h0]; simp⟩
    · have hpos : 0 < o.wt := by have := ho1.w0; omega
      have app : (∀ a ∈ out, keyO a < keyO o) → Neat (mergeF (out ++ [o]) l) ∧ ∀ j, wAt (mergeF (out ++ [o]) l) j = wAt out j + wAt (o :: l) j := fun hlt => by
        have hn2 : Neat (out ++ [o]) := ⟨List.pairwise_append.2 ⟨hn.asc, List.pairwise_singleton _ _, fun a ha b hb => by rw [List.mem_singleton.1 hb]; exact hlt a ha⟩, fun x hx => by
          rcases List.mem_append.1 hx with hx | hx
          · exact hn.each x hx
          · rw [List.mem_singleton.1 hx]; exact ⟨ho1.r0, ho1.r7, hpos⟩⟩
        obtain ⟨h1, h2⟩ := mergeF_neat l (out ++ [o]) hol hs'.2 hn2 fun a ha x hx => by
          rcases List.mem_append.1 ha with ha | ha
          · exact hll a ha x hx
          · rw [List.mem_singleton.1 ha]; exact hs'.1 x hx
        exact ⟨h1, fun j => by rw [h2, wAt_app, wAt_cons, wAt_cons, wAt_nil]; omega⟩
      rw [mergeF, if_neg h0]
      cases hg : out.getLast? with
      | none =>
        have : out = [] := List.getLast?_eq_none_iff.1 hg
        subst this
        exact app (by simp)
      | some p =>
        have hne : out ≠ [] := fun e => by rw [e] at hg; cases hg
        have hpe : out.getLast hne = p := by
          rw [List.getLast?_eq_some_getLast hne] at hg; exact Option.some.inj hg
        have hpm : p ∈ out := by rw [← hpe]; exact List.getLast_mem hne
        have hpo := hn.each p hpm
        have e : out = out.dropLast ++ [p] := by
          conv => lhs; rw [← List.dropLast_concat_getLast hne]
          rw [hpe]
        have hpw := hn.asc
        rw [e, List.pairwise_append] at hpw
        by_cases hk : ordS p o = 0
        · have hke := (ord_key hpo.1 ho1.r0).2.1 hk
          have hn2 : Neat (out.dropLast ++ [{ p with wt := p.wt + o.wt }]) := ⟨List.pairwise_append.2 ⟨hpw.1, List.pairwise_singleton _ _, fun a ha b hb => by
            rw [List.mem_singleton.1 hb]; exact hpw.2.2 a ha p (by simp)⟩, fun x hx => by
            rcases List.mem_append.1 hx with hx | hx
            · exact hn.each x (List.dropLast_subset out hx)
            · rw [List.mem_singleton.1 hx]; exact ⟨hpo.1, hpo.2.1, by simp only; omega⟩⟩
          obtain ⟨h1, h2⟩ := mergeF_neat l (out.dropLast ++ [{ p with wt := p.wt + o.wt }]) hol hs'.2 hn2 fun a ha x hx => by
            rcases List.mem_append.1 ha with ha | ha
            · exact hll a (List.dropLast_subset out ha) x hx
            · rw [List.mem_singleton.1 ha]; exact hll p hpm x hx
          simp only [hk, if_true]
          exact ⟨h1, fun j => by rw [h2, wAt_last hg, wAt_cons, hke]; omega⟩
        · simp only [hk, if_false]
          have hne' : keyO p ≠ keyO o := fun h => hk ((ord_key hpo.1 ho1.r0).2.2 h)
          have hplt : keyO p < keyO o := by have := hle p hpm o (by simp); omega
          refine app fun a ha => ?_
          rw [e] at ha
          rcases List.mem_append.1 ha with ha | ha
          · exact Nat.lt_trans (hpw.2.2 a ha p (by simp)) hplt
          · rw [List.mem_singleton.1 ha]; exact hplt
/-- A sorted arrangement of the outcomes, merged, is the distribution of their weights at the keys. -/
theorem merge_norm {d l : List Otc} (hp : l.Perm d) (ho : ∀ o ∈ d, OkN o) (hs : l.Pairwise fun a b => keyO a ≤ keyO b) : mergeF [] l = canon (wAt d) := by
  obtain ⟨h1, h2⟩ := mergeF_neat l [] (fun o hx => ho o (hp.mem_iff.1 hx)) hs ⟨List.Pairwise.nil, fun o hx => by cases hx⟩ fun a ha => by cases ha
  rw [← canon_neat h1]
  exact canon_congr fun j _ => by rw [h2, wAt_nil, Int.zero_add, wAt_perm hp]
theorem mergeF_le : ∀ (l out : List Otc), (mergeF out l).length ≤ out.length + l.length
  | [], out => by rw [mergeF]; simp
  | o :: l, out => by
    rw [mergeF, List.length_cons]
    split
    · have := mergeF_le l out; omega
    · split
      · have := mergeF_le l (out ++ [o]); simp at this; omega
      · rename_i p hg
        have hne : out ≠ [] := fun e => by rw [e] at hg; cases hg
        have h0 : 0 < out.length := List.length_pos_iff.2 hne
        split
        · have := mergeF_le l (out.dropLast ++ [{ p with wt := p.wt + o.wt }]); simp at this; omega
        · have := mergeF_le l (out ++ [o]); simp at this; omega
theorem badN_all {d : List Otc} (h : ¬ d.any badN = true) : ∀ o ∈ d, OkN o := fun o ho => badN_no (by
  cases hb : badN o with
  | false => rfl
  | true => exact absurd (List.any_eq_true.2 ⟨o, ho, hb⟩) h)
theorem normS_ok {d : List Otc} (h : (normS d).2 = 0) : d.length ≤ 64 ∧ (∀ o ∈ d, OkN o) ∧ sumI (d.map (·.wt)) = 16 ∧ (normS d).1 = canon (wAt d) := by
  unfold normS at h ⊢
  by_cases h1 : 64 < d.length
  · rw [if_pos h1] at h; cases h
  · rw [if_neg h1] at h ⊢
    by_cases h2 : d.any badN = true
    · rw [if_pos h2] at h; cases h
    · rw [if_neg h2] at h ⊢
      by_cases h3 : sumI (d.map (·.wt)) ≠ 16
      · rw [if_pos h3] at h; cases h
      · rw [if_neg h3]
        exact ⟨by omega, badN_all h2, by omega, rfl⟩
theorem normS_good {d : List Otc} (h1 : d.length ≤ 64) (h2 : ∀ o ∈ d, OkN o) (h3 : sumI (d.map (·.wt)) = 16) : normS d = (canon (wAt d), 0) := by
  unfold normS
  rw [if_neg (by omega), if_neg, if_neg (by omega)]
  intro h
  obtain ⟨o, ho, hb⟩ := List.any_eq_true.1 h
  rw [okN_good (h2 o ho)] at hb; cases hb
theorem normS_check {d : List Otc} (h : (normS d).2 = 0) : checkD (normS d).1 = 0 := by
  obtain ⟨h1, h2, h3, h4⟩ := normS_ok h
  rw [h4]
  exact canon_ok (fun j _ => wAt_nonneg (fun o ho => (h2 o ho).w0) j) (by rw [sumK_wAt d fun o ho => ⟨(h2 o ho).r0, (h2 o ho).r7⟩]; exact h3)
end Go.Proofs.YtfnfbojaiikigaaGreatDoor
