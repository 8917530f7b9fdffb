/- Plain specifications of chance: checks loop by loop, the spread of one ball and of several, sums of a spread. -/
import Derived.Test.YtfnfbojaiikigaaGreatDoorP50
set_option linter.unusedSimpArgs false
set_option linter.unusedVariables false
namespace Go.Proofs.YtfnfbojaiikigaaGreatDoor

/-- The outcome ahead of the k-th. -/
def prevO (l : List Otc) (k : Nat) : Option Otc := if k = 0 then none else l[k - 1]?
theorem prevO_zero (l : List Otc) : prevO l 0 = none := rfl
theorem prevO_succ {l : List Otc} {k : Nat} (h : k ≠ 0) (hk : k - 1 < l.length) : prevO l k = some l[k - 1] := by unfold prevO; rw [if_neg h, List.getElem?_eq_getElem hk]
theorem otcsF_at {l : List Otc} {k : Nat} (s : Int) (h : k < l.length) :
    otcsF (prevO l k) s (l.drop k) = if otcErr (prevO l k) l[k] ≠ 0 then otcErr (prevO l k) l[k] else otcsF (prevO l (k + 1)) (s + l[k].wt) (l.drop (k + 1)) := by
  rw [List.drop_eq_getElem_cons h, otcsF]
  have : prevO l (k + 1) = some l[k] := by unfold prevO; rw [if_neg (by omega), Nat.add_sub_cancel, List.getElem?_eq_getElem h]
  rw [this]
theorem otcsF_end {l : List Otc} {k : Nat} (p : Option Otc) (s : Int) (h : l.length ≤ k) : otcsF p s (l.drop k) = if s = 16 then 0 else 12 := by rw [List.drop_of_length_le h, otcsF]
theorem otcErr_bad {p : Option Otc} {o : Otc} (h : badO o = true) : otcErr p o = 2 := by unfold otcErr; rw [if_pos h]
theorem otcErr_none {o : Otc} (h : badO o = false) : otcErr none o = 0 := by unfold otcErr; rw [if_neg (by simp [h])]
theorem otcErr_some {p o : Otc} (h : badO o = false) : otcErr (some p) o = if befB p o = true then 0 else 8 := by unfold otcErr; rw [if_neg (by simp [h])]
/-- The ways through the test of an outcome. -/
theorem badO_ways (o : Otc) : (badO o = true ∧ ((decide (o.runs < 0) = true) ∨ (decide (o.runs < 0) = false ∧ decide (7 < o.runs) = true) ∨ (decide (o.runs < 0) = false ∧ decide (7 < o.runs) = false ∧ decide (o.wt < 1) = true) ∨ (decide (o.runs < 0) = false ∧ decide (7 < o.runs) = false ∧ decide (o.wt < 1) = false ∧ decide (16 < o.wt) = true)))
    ∨ (badO o = false ∧ decide (o.runs < 0) = false ∧ decide (7 < o.runs) = false ∧ decide (o.wt < 1) = false ∧ decide (16 < o.wt) = false) := by
  unfold badO
  cases decide (o.runs < 0) <;> cases decide (7 < o.runs) <;> cases decide (o.wt < 1) <;> cases decide (16 < o.wt) <;> simp
structure OkO (o : Otc) : Prop where
  r0 : 0 ≤ o.runs
  r7 : o.runs ≤ 7
  w1 : 1 ≤ o.wt
  w16 : o.wt ≤ 16
theorem badO_no {o : Otc} (h : badO o = false) : OkO o := by
  unfold badO at h
  simp at h
  obtain ⟨⟨⟨a, b⟩, c⟩, d⟩ := h
  exact ⟨by omega, by omega, by omega, by omega⟩
theorem bef_runs {a b : Otc} (h : befB a b = true) : a.runs ≤ b.runs := by
  unfold befB ordS at h
  simp only [decide_eq_true_eq] at h
  repeat' split at h
  all_goals omega
theorem otcsF_ok : ∀ (l : List Otc) (p : Option Otc) (s : Int), otcsF p s l = 0 →
    (∀ o ∈ l, OkO o) ∧ s + sumI (l.map (·.wt)) = 16 ∧ (∀ a ∈ l, ∀ b, l.getLast? = some b → a.runs ≤ b.runs) ∧ (∀ q, p = some q → ∀ b, l.getLast? = some b → q.runs ≤ b.runs) := by
  intro l
  induction l with
  | nil =>
    intro p s h
    rw [otcsF] at h
    refine ⟨(fun o ho => by cases ho), ?_, (fun a ha => by cases ha), (fun q hq b hb => by cases hb)⟩
    rw [List.map_nil, sumI_nil]
    split at h
    · omega
    · cases h
  | cons o l ih =>
    intro p s h
    rw [otcsF] at h
    by_cases he : otcErr p o = 0
    · rw [if_neg (fun k => k he)] at h
      obtain ⟨h1, h2, h3, h4⟩ := ih _ _ h
      have hb : badO o = false := by
        cases hb : badO o
        · rfl
        · rw [otcErr_bad hb] at he; cases he
      have hlast : ∀ b, (o :: l).getLast? = some b → o.runs ≤ b.runs := by
        intro b hb'
        cases l with
        | nil => simp at hb'; rw [hb']; exact Int.le_refl _
        | cons x l => rw [List.getLast?_cons_cons] at hb'; exact h4 o rfl b hb'
      refine ⟨?_, ?_, ?_, ?_⟩
      · intro x hx
        rcases List.mem_cons.1 hx with rfl | hx
        · exact badO_no hb
        · exact h1 x hx
      · rw [List.map_cons, sumI_cons]; omega
      · intro a ha b hb'
        rcases List.mem_cons.1 ha with rfl | ha
        · exact hlast b hb'
        · cases l with
          | nil => cases ha
          | cons x l => rw [List.getLast?_cons_cons] at hb'; exact h3 a ha b hb'
      · intro q hq b hb'
        subst hq
        rw [otcErr_some hb] at he
        have hbq : befB q o = true := by
          cases hx : befB q o
          · rw [hx] at he; simp at he
          · rfl
        have := bef_runs hbq
        have := hlast b hb'
        omega
    · rw [if_pos he] at h; exact absurd h he
/-- What an accepted distribution is. -/
structure OkD (d : List Otc) : Prop where
  len : 1 ≤ d.length ∧ d.length ≤ 16
  each : ∀ o ∈ d, OkO o
  sum : sumI (d.map (·.wt)) = 16
  last : ∀ a ∈ d, ∀ b, d.getLast? = some b → a.runs ≤ b.runs
theorem checkD_ok {d : List Otc} (h : checkD d = 0) : OkD d := by
  unfold checkD at h
  by_cases h0 : d.length = 0
  · rw [if_pos h0] at h; cases h
  · rw [if_neg h0] at h
    by_cases h1 : 16 < d.length
    · rw [if_pos h1] at h; cases h
    · rw [if_neg h1] at h
      obtain ⟨a, b, c, _⟩ := otcsF_ok _ _ _ h
      exact ⟨by omega, a, by omega, c⟩
/-- The runs of the last outcome. -/
def lastR (d : List Otc) : Int := ((d.getLast?).map (·.runs)).getD 0
theorem OkD.lastR {d : List Otc} (h : OkD d) : ∃ o ∈ d, Go.Proofs.YtfnfbojaiikigaaGreatDoor.lastR d = o.runs ∧ d[d.length - 1]? = some o ∧ ∀ a ∈ d, a.runs ≤ o.runs := by
  obtain ⟨o, ho⟩ : ∃ o, d.getLast? = some o := by
    cases hx : d.getLast? with
    | none => rw [List.getLast?_eq_none_iff] at hx; have := h.len.1; rw [hx] at this; simp at this
    | some o => exact ⟨o, rfl⟩
  refine ⟨o, List.mem_of_getLast? ho, by unfold Go.Proofs.YtfnfbojaiikigaaGreatDoor.lastR; rw [ho]; rfl, by rw [← List.getLast?_eq_getElem?]; exact ho, fun a ha => h.last a ha o ho⟩
/-- The weights of one ball: of the first k outcomes, at r runs. -/
def ofC (l : List Otc) (r : Nat) : Int := sumI (l.map fun o => if o.runs = (r : Int) then o.wt else 0)
def ofL (d : List Otc) : List Int := (List.range ((lastR d).toNat + 1)).map (ofC d)
def ofS (d : List Otc) : Spr × Int := if checkD d ≠ 0 then (noSpr, checkD d) else (⟨1, ofL d⟩, 0)
theorem ofC_take {d : List Otc} {k : Nat} (h : k < d.length) (r : Nat) : ofC (d.take (k + 1)) r = ofC (d.take k) r + if d[k].runs = (r : Int) then d[k].wt else 0 := by
  unfold ofC
  rw [List.take_succ_eq_append_getElem h, List.map_append, sumI_app]
  simp [sumI_cons, sumI_nil]
theorem ofC_pos {d : List Otc} (h : ∀ o ∈ d, OkO o) (r : Nat) : 0 ≤ ofC d r ∧ ofC d r ≤ sumI (d.map (·.wt)) := by
  unfold ofC
  induction d with
  | nil => simp [sumI_nil]
  | cons o d ih =>
    have := ih fun x hx => h x (by simp [hx])
    have ho := (h o (by simp)).w1
    rw [List.map_cons, List.map_cons, sumI_cons, sumI_cons]
    split <;> omega
theorem sumI_range_add (f g : Nat → Int) (n : Nat) : sumI ((List.range n).map fun r => f r + g r) = sumI ((List.range n).map f) + sumI ((List.range n).map g) := by
  induction n with
  | zero => rfl
  | succ n ih => rw [List.range_succ, List.map_append, List.map_append, List.map_append, sumI_app, sumI_app, sumI_app, ih]; simp [sumI_cons, sumI_nil]; omega
theorem sumI_range_one (x w : Int) (n : Nat) : sumI ((List.range n).map fun r : Nat => if x = (r : Int) then w else 0) = if 0 ≤ x ∧ x < n then w else 0 := by
  induction n with
  | zero => rw [if_neg (by omega)]; rfl
  | succ n ih =>
    rw [List.range_succ, List.map_append, sumI_app, ih]
    simp only [List.map_cons, List.map_nil, sumI_cons, sumI_nil]
    by_cases h : x = (n : Int)
    · rw [if_pos h, if_neg (by omega), if_pos (by omega)]; omega
    · rw [if_neg h]
      by_cases h2 : 0 ≤ x ∧ x < (n : Int)
      · rw [if_pos h2, if_pos (by omega)]; omega
      · rw [if_neg h2, if_neg (by omega)]; omega
theorem ofL_sum {R : Nat} : ∀ (d : List Otc), (∀ o ∈ d, 0 ≤ o.runs ∧ o.runs < R) → sumI ((List.range R).map (ofC d)) = sumI (d.map (·.wt)) := by
  intro d
  induction d with
  | nil =>
    intro _
    have : (List.range R).map (ofC []) = (List.range R).map (fun _ => (0 : Int)) := rfl
    rw [this]
    induction R with
    | zero => rfl
    | succ n ih => rw [List.range_succ, List.map_append, sumI_app, ih (fun o ho => by cases ho) rfl]; rfl
  | cons o d ih =>
    intro h
    have e : (fun r => ofC (o :: d) r) = fun r : Nat => (if o.runs = (r : Int) then o.wt else 0) + ofC d r := by
      funext r; unfold ofC; rw [List.map_cons, sumI_cons]
    have e2 : (List.range R).map (ofC (o :: d)) = (List.range R).map fun r : Nat => (if o.runs = (r : Int) then o.wt else 0) + ofC d r := by rw [← e]
    rw [e2, sumI_range_add, sumI_range_one, if_pos (h o (by simp)), ih fun x hx => h x (by simp [hx]), List.map_cons, sumI_cons]
theorem ofL_length (d : List Otc) : (ofL d).length = (lastR d).toNat + 1 := by unfold ofL; simp
/-- What an accepted spread is. -/
structure OkP (n : Nat) (ws : List Int) : Prop where
  n12 : n ≤ 12
  len : 1 ≤ ws.length ∧ ws.length ≤ 7 * n + 1
  fine : Fine ws (unitV n)
  last : ws.getLast? ≠ some 0
theorem OkP.ne {n : Nat} {ws : List Int} (h : OkP n ws) : ws ≠ [] := by intro e; have := h.len.1; rw [e] at this; simp at this
theorem unitV_nat (n : Nat) : unitV n = ((16 ^ n : Nat) : Int) := by unfold unitV; rw [Int.natCast_pow]; rfl
theorem unitV_le {n : Nat} (h : n ≤ 12) : 1 ≤ unitV n ∧ unitV n ≤ 281474976710656 := by
  have h1 : 1 ≤ 16 ^ n := Nat.one_le_pow n 16 (by omega)
  have h2 : 16 ^ n ≤ 16 ^ 12 := Nat.pow_le_pow_right (by omega) h
  have h3 : (16 : Nat) ^ 12 = 281474976710656 := by decide
  rw [h3] at h2
  rw [unitV_nat]
  generalize 16 ^ n = x at h1 h2
  omega
theorem unitV_add (n m : Nat) : unitV (n + m) = unitV n * unitV m := by unfold unitV; rw [Int.pow_add]
theorem unitV_zero : unitV 0 = 1 := rfl
theorem unitV_one : unitV 1 = 16 := rfl
theorem OkP.check {n : Nat} {ws : List Int} (h : OkP n ws) : checkP ⟨(n : Int), ws⟩ = 0 := by
  unfold checkP
  have hl := h.len
  have h12 := h.n12
  simp only [Int.toNat_natCast]
  rw [if_neg (by omega), if_neg (by omega), if_neg (by omega), if_neg ?_, if_neg h.last, if_pos h.fine.sum]
  have : (ws.all fun x => decide (0 ≤ x) && decide (x ≤ unitV n)) = true := by
    rw [List.all_eq_true]
    intro x hx
    have h1 := h.fine.pos x hx
    have h2 := mem_le_sum h.fine.pos x hx
    rw [h.fine.sum] at h2
    simp [h1, h2]
  rw [this]; simp
theorem checkP_ok {s : Spr} (h : checkP s = 0) : ∃ n : Nat, s.balls = (n : Int) ∧ OkP n s.ws := by
  unfold checkP at h
  by_cases h1 : s.balls < 0 ∨ 12 < s.balls
  · rw [if_pos h1] at h; cases h
  · rw [if_neg h1] at h
    by_cases h2 : s.ws.length = 0
    · rw [if_pos h2] at h; cases h
    · rw [if_neg h2] at h
      by_cases h3 : 7 * s.balls + 1 < (s.ws.length : Int)
      · rw [if_pos h3] at h; cases h
      · rw [if_neg h3] at h
        by_cases h4 : (s.ws.all fun x => decide (0 ≤ x) && decide (x ≤ unitV s.balls.toNat)) = false
        · rw [if_pos h4] at h; cases h
        · rw [if_neg h4] at h
          by_cases h5 : s.ws.getLast? = some 0
          · rw [if_pos h5] at h; cases h
          · rw [if_neg h5] at h
            by_cases h6 : sumI s.ws = unitV s.balls.toNat
            · refine ⟨s.balls.toNat, by omega, by omega, by omega, ⟨fun x hx => ?_, h6⟩, h5⟩
              have := List.all_eq_true.1 ((Bool.not_eq_false _).mp h4) x hx
              simp only [Bool.and_eq_true, decide_eq_true_eq] at this
              exact this.1
            · rw [if_neg h6] at h; cases h
theorem ofL_ok {d : List Otc} (h : OkD d) : OkP 1 (ofL d) := by
  obtain ⟨o, ho, h1, h2, h3⟩ := h.lastR
  have hoo := h.each o ho
  have hr0 := hoo.r0
  have hr7 := hoo.r7
  have hl := ofL_length d
  rw [h1] at hl
  refine ⟨by omega, by rw [hl]; omega, ⟨?_, ?_⟩, ?_⟩
  · intro x hx
    unfold ofL at hx
    obtain ⟨r, _, rfl⟩ := List.mem_map.1 hx
    exact (ofC_pos h.each r).1
  · unfold ofL
    rw [ofL_sum d fun a ha => ⟨(h.each a ha).r0, by rw [h1]; have := h3 a ha; omega⟩, h.sum]; rfl
  · intro he
    rw [List.getLast?_eq_getElem?, hl] at he
    unfold ofL at he
    rw [List.getElem?_map, h1, List.getElem?_range (by omega)] at he
    simp only [Option.map_some, Option.some.injEq] at he
    have key : ∀ (l : List Otc), (∀ a ∈ l, OkO a) → o ∈ l → 1 ≤ ofC l (o.runs.toNat + 1 - 1) := by
      intro l
      induction l with
      | nil => intro _ h; cases h
      | cons x l ih =>
        intro hl hm
        have hp := (ofC_pos (d := l) (fun a ha => hl a (by simp [ha])) (o.runs.toNat + 1 - 1)).1
        have hx := (hl x (by simp)).w1
        have e : ofC (x :: l) (o.runs.toNat + 1 - 1) = (if x.runs = ((o.runs.toNat + 1 - 1 : Nat) : Int) then x.wt else 0) + ofC l (o.runs.toNat + 1 - 1) := by unfold ofC; rw [List.map_cons, sumI_cons]
        rw [e]
        rcases List.mem_cons.1 hm with rfl | hm
        · rw [if_pos (by omega)]; omega
        · have := ih (fun a ha => hl a (by simp [ha])) hm
          split <;> omega
    have := key d h.each ho
    omega
theorem conv_ok {n m : Nat} {a b : List Int} (ha : OkP n a) (hb : OkP m b) (h : n + m ≤ 12) : OkP (n + m) (convL a b) := by
  have h1 := ha.len
  have h2 := hb.len
  refine ⟨h, by rw [convL_length]; omega, ?_, conv_last ha.ne hb.ne ha.last hb.last⟩
  rw [unitV_add]
  exact conv_fine ha.fine hb.fine ha.ne
/-- The weights of n balls. -/
def powL (one : List Int) : Nat → List Int
  | 0 => [1]
  | n + 1 => convL (powL one n) one
theorem one_ok : OkP 0 [1] := ⟨by omega, by simp, ⟨by simp, rfl⟩, by simp⟩
theorem powL_ok {one : List Int} (h : OkP 1 one) : ∀ n, n ≤ 12 → OkP n (powL one n) := by
  intro n
  induction n with
  | zero => intro _; exact one_ok
  | succ n ih => intro hn; exact conv_ok (ih (by omega)) h hn
def powS (d : List Otc) (n : Int) : Spr × Int :=
  if checkD d ≠ 0 then (noSpr, checkD d) else if n < 0 ∨ 12 < n then (noSpr, 2) else (⟨n, powL (ofL d) n.toNat⟩, 0)
def convolveS (a b : Spr) : Spr × Int :=
  if checkP a ≠ 0 then (noSpr, checkP a) else if checkP b ≠ 0 then (noSpr, checkP b) else if 12 < a.balls + b.balls then (noSpr, 9) else (convS a b, 0)
/-- The weight of at least so many runs, from place i on. -/
def alF (runs : Int) : Nat → List Int → Int
  | _, [] => 0
  | i, w :: l => (if runs ≤ (i : Int) then w else 0) + alF runs (i + 1) l
def atLeastL (ws : List Int) (runs : Int) : Int := alF runs 0 ws
def atLeastS (s : Spr) (runs : Int) : Int × Int := if checkP s ≠ 0 then (0, checkP s) else (atLeastL s.ws runs, 0)
/-- Runs times weight, from place i on. -/
def sxF : Nat → List Int → Int
  | _, [] => 0
  | i, w :: l => (i : Int) * w + sxF (i + 1) l
def sumS (s : Spr) : Int × Int := if checkP s ≠ 0 then (0, checkP s) else (sxF 0 s.ws, 0)
/-- Does a have at least b's weight above each r from r on? -/
def domF (a b : List Int) : Nat → Nat → Bool
  | _, 0 => true
  | r, n + 1 => if atLeastL a r < atLeastL b r then false else domF a b (r + 1) n
def domS (a b : Spr) : Bool × Int :=
  if checkP a ≠ 0 then (false, checkP a) else if checkP b ≠ 0 then (false, checkP b) else if a.balls ≠ b.balls then (false, 1) else (domF a.ws b.ws 0 b.ws.length, 0)
theorem alF_bound (runs : Int) : ∀ (l : List Int) (i : Nat), (∀ x ∈ l, 0 ≤ x) → 0 ≤ alF runs i l ∧ alF runs i l ≤ sumI l := by
  intro l
  induction l with
  | nil => intro i _; simp [alF, sumI_nil]
  | cons w l ih =>
    intro i h
    have := ih (i + 1) fun x hx => h x (by simp [hx])
    have := h w (by simp)
    rw [alF, sumI_cons]
    split <;> omega
theorem sxF_bound : ∀ (l : List Int) (i N : Nat), i + l.length ≤ N → (∀ x ∈ l, 0 ≤ x) → 0 ≤ sxF i l ∧ sxF i l ≤ N * sumI l := by
  intro l
  induction l with
  | nil => intro i N _ _; simp [sxF, sumI_nil]
  | cons w l ih =>
    intro i N hN h
    rw [List.length_cons] at hN
    have h1 := ih (i + 1) N (by omega) fun x hx => h x (by simp [hx])
    have hw := h w (by simp)
    rw [sxF, sumI_cons, Int.mul_add]
    have h2 := Int.mul_nonneg (show (0 : Int) ≤ (i : Int) by omega) hw
    have h3 := Int.mul_le_mul_of_nonneg_right (show (i : Int) ≤ (N : Int) by omega) hw
    omega
theorem sumI_pos {l : List Int} (h : ∀ x ∈ l, 0 ≤ x) : 0 ≤ sumI l := Int.le_trans (sumI_take_le h 0).1 (sumI_take_le h 0).2
end Go.Proofs.YtfnfbojaiikigaaGreatDoor
