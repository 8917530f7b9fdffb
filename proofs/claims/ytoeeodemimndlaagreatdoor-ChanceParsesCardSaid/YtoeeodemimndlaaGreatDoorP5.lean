/- Plain specifications of package text: the cursor. -/
import Derived.Test.YtoeeodemimndlaaGreatDoorP1
set_option linter.unusedSimpArgs false
set_option linter.unusedVariables false
namespace Go.Proofs.YtoeeodemimndlaaGreatDoor

/-- A cursor: the line, the index of the next field, the column of the field read last, the first error and its column. -/
structure Cur where
  num : Int
  fields : List Fld
  next : Nat
  last : Int
  err : Int
  pos : Int
def Cur.start (x : Lin) : Cur := ⟨x.num, x.fields, 0, 0, 0, 0⟩
def Cur.fail (c : Cur) (e col : Int) : Cur := if c.err = 0 then { c with err := e, pos := col } else c
def Cur.read (c : Cur) (q : Bool) : Cur × List UInt8 × Bool :=
  if c.err = 0 then
    match c.fields[c.next]? with
    | none => (c.fail 4 0, [], false)
    | some f => if f.quoted = q then ({ c with next := c.next + 1, last := f.col }, f.text, true) else (c.fail 4 f.col, [], false)
  else (c, [], false)
def Cur.more (c : Cur) : Bool := decide (c.err = 0) && decide (c.next < c.fields.length)
def Cur.ok (c : Cur) : Prop := c.next ≤ c.fields.length
theorem Cur.fail_ok {c : Cur} (h : c.ok) (e col : Int) : (c.fail e col).ok := by unfold Cur.fail; split <;> exact h
theorem Cur.read_ok {c : Cur} (h : c.ok) (q : Bool) : (c.read q).1.ok := by
  unfold Cur.read
  split
  · split
    · exact Cur.fail_ok h _ _
    · rename_i f hf
      have := (List.getElem?_eq_some_iff.1 hf).1
      split
      · unfold Cur.ok; exact this
      · exact Cur.fail_ok h _ _
  · exact h
theorem Cur.read_fields (c : Cur) (q : Bool) : (c.read q).1.fields = c.fields := by
  unfold Cur.read Cur.fail; repeat' split
  all_goals rfl
theorem Cur.read_text (c : Cur) (q : Bool) {n : Nat} (h : ∀ f ∈ c.fields, f.text.length ≤ n) : (c.read q).2.1.length ≤ n := by
  unfold Cur.read
  split
  · split
    · simp
    · rename_i f hf
      split
      · exact h f (List.mem_of_getElem? hf)
      · simp
  · simp
/-- The text of the next word, read as a name. -/
def letterB (c : UInt8) : Bool := 65 ≤ c && c ≤ 90
def tailB (c : UInt8) : Bool := letterB c || c == 95 || c == 45 || (48 ≤ c && c ≤ 57)
/-- A name: a letter, then letters, digits and two signs; at most 16 bytes. -/
def nameS : List UInt8 → Bool
  | [] => false
  | c :: l => letterB c && l.all tailB && decide (l.length ≤ 15)
def Cur.keyword (c : Cur) (kw : List UInt8) : Cur × Bool :=
  ((if (c.read false).2.2 = true ∧ (c.read false).2.1 ≠ kw then (c.read false).1.fail 4 (c.read false).1.last else (c.read false).1), (c.read false).2.2 && decide ((c.read false).2.1 = kw))
def Cur.ident (c : Cur) : Cur × List UInt8 :=
  if (c.read false).2.2 = true ∧ nameS (c.read false).2.1 = false then ((c.read false).1.fail 5 (c.read false).1.last, []) else ((c.read false).1, (c.read false).2.1)
/-- Where a text stands in a list: -1 if it does not. -/
def indexF (s : List UInt8) : List (List UInt8) → Nat → Int
  | [], _ => -1
  | a :: l, i => if a = s then i else indexF s l (i + 1)
def indexS (l : List (List UInt8)) (s : List UInt8) : Int := indexF s l 0
theorem indexF_le (s : List UInt8) : ∀ (l : List (List UInt8)) (i : Nat), -1 ≤ indexF s l i ∧ indexF s l i + 1 ≤ i + l.length := by
  intro l
  induction l with
  | nil => intro i; simp [indexF] <;> omega
  | cons a l ih =>
    intro i
    rw [indexF]
    have := ih (i + 1)
    split
    · simp; omega
    · simp; omega
theorem indexS_le (l : List (List UInt8)) (s : List UInt8) : -1 ≤ indexS l s ∧ indexS l s + 1 ≤ l.length := by
  have := indexF_le s l 0
  unfold indexS; simpa using this
def Cur.oneOf (c : Cur) (l : List (List UInt8)) : Cur × Int :=
  if (c.read false).2.2 = true then ((if indexS l (c.read false).2.1 < 0 then (c.read false).1.fail 4 (c.read false).1.last else (c.read false).1), indexS l (c.read false).2.1) else ((c.read false).1, -1)
def Cur.reject (c : Cur) (e : Int) : Cur := if e = 0 then c else c.fail e c.last
def Cur.close (c : Cur) : Option Dia :=
  if c.err ≠ 0 then some ⟨c.num, c.pos, c.err⟩ else match c.fields[c.next]? with | some f => some ⟨c.num, f.col, 4⟩ | none => none
end Go.Proofs.YtoeeodemimndlaaGreatDoor
namespace Go.Proofs.YtoeeodemimndlaaGreatDoor

structure Sqd where
  name : List UInt8
  players : List (List UInt8)
  cap : Int
  kee : Int
def titleS (q : Sqd) (n : Int) : List UInt8 :=
  if n < 1 ∨ (q.players.length : Int) < n then [] else
    (q.players.getD (n - 1).toNat []) ++ (if n = q.cap then [32, 40, 99, 41] else []) ++ (if n = q.kee then [32, 40, 107, 41] else [])
/-- The first error of the players; those before them. -/
def playersErr : List (List UInt8) → List (List UInt8) → Int
  | [], _ => 0
  | p :: ps, pre => if nameS p = false then 5 else if p ∈ pre then 7 else playersErr ps (pre ++ [p])
def checkS (q : Sqd) : Int :=
  if nameS q.name = false then 5
  else if q.players.length < 2 ∨ 11 < q.players.length then 9
  else if playersErr q.players [] ≠ 0 then playersErr q.players []
  else if titleS q q.cap = [] ∨ titleS q q.kee = [] then 6 else 0
end Go.Proofs.YtoeeodemimndlaaGreatDoor
namespace Go.Proofs.YtoeeodemimndlaaGreatDoor

def Cur.left (c : Cur) : Nat := c.fields.length - c.next + (if c.err = 0 then 1 else 0)
theorem Cur.fail_left (c : Cur) (e col : Int) : (c.fail e col).left ≤ c.left ∧ (c.fail e col).fields = c.fields := by
  unfold Cur.fail
  split
  · rename_i h
    refine ⟨?_, rfl⟩
    unfold Cur.left
    rw [if_pos h]
    show c.fields.length - c.next + (if e = 0 then 1 else 0) ≤ _
    split <;> omega
  · exact ⟨Nat.le_refl _, rfl⟩
theorem Cur.reject_left (c : Cur) (e : Int) : (c.reject e).left ≤ c.left ∧ (c.reject e).fields = c.fields := by
  unfold Cur.reject; split
  · exact ⟨Nat.le_refl _, rfl⟩
  · exact Cur.fail_left c e c.last
theorem Cur.read_left (c : Cur) (q : Bool) : (c.read q).1.left ≤ c.left ∧ (c.more = true → (c.read q).1.left < c.left) := by
  unfold Cur.read Cur.more
  by_cases h : c.err = 0
  · rw [if_pos h]
    split
    · rename_i hn
      have := List.getElem?_eq_none_iff.1 hn
      refine ⟨(Cur.fail_left c 4 0).1, fun hm => ?_⟩
      simp [h] at hm; omega
    · rename_i f hf
      have hlt := (List.getElem?_eq_some_iff.1 hf).1
      split
      · have : ({ c with next := c.next + 1, last := f.col } : Cur).left < c.left := by unfold Cur.left; simp only; omega
        exact ⟨Nat.le_of_lt this, fun _ => this⟩
      · have : (c.fail 4 f.col).left < c.left := by unfold Cur.fail Cur.left; rw [if_pos h]; simp [h]
        exact ⟨Nat.le_of_lt this, fun _ => this⟩
  · rw [if_neg h]
    exact ⟨Nat.le_refl _, fun hm => by simp [h] at hm⟩
theorem Cur.oneOf_left (c : Cur) (l : List (List UInt8)) : (c.oneOf l).1.left ≤ c.left ∧ (c.more = true → (c.oneOf l).1.left < c.left) ∧ (c.oneOf l).1.fields = c.fields := by
  have h := Cur.read_left c false
  have hf := Cur.read_fields c false
  unfold Cur.oneOf
  split
  · simp only
    split
    · have k := Cur.fail_left (c.read false).1 4 (c.read false).1.last
      exact ⟨by omega, fun hm => by have := h.2 hm; omega, k.2.trans hf⟩
    · exact ⟨h.1, h.2, hf⟩
  · exact ⟨h.1, h.2, hf⟩
theorem Cur.keyword_fields (c : Cur) (kw : List UInt8) : (c.keyword kw).1.fields = c.fields := by
  unfold Cur.keyword; simp only; split
  · exact (Cur.fail_left _ _ _).2.trans (Cur.read_fields c false)
  · exact Cur.read_fields c false
theorem Cur.ident_fields (c : Cur) : c.ident.1.fields = c.fields := by
  unfold Cur.ident; split
  · exact (Cur.fail_left _ _ _).2.trans (Cur.read_fields c false)
  · exact Cur.read_fields c false
theorem Cur.ident_text (c : Cur) {n : Nat} (h : ∀ f ∈ c.fields, f.text.length ≤ n) : c.ident.2.length ≤ n := by
  unfold Cur.ident; split
  · simp
  · exact Cur.read_text c false h
theorem Cur.keyword_left (c : Cur) (kw : List UInt8) : (c.keyword kw).1.left ≤ c.left := by
  have := (Cur.read_left c false).1
  unfold Cur.keyword; simp only; split
  · have := (Cur.fail_left (c.read false).1 4 (c.read false).1.last).1; omega
  · exact this
theorem Cur.ident_left (c : Cur) : c.ident.1.left ≤ c.left := by
  have := (Cur.read_left c false).1
  unfold Cur.ident; split
  · have := (Cur.fail_left (c.read false).1 5 (c.read false).1.last).1; simp only; omega
  · exact this

def sCAPTAIN : List UInt8 := [67, 65, 80, 84, 65, 73, 78]
def sKEEPER : List UInt8 := [75, 69, 69, 80, 69, 82]
def sPLAYER : List UInt8 := [80, 76, 65, 89, 69, 82]
def sSIDE : List UInt8 := [83, 73, 68, 69]
/-- One duty of the player n. -/
def dutyS (n : Int) (q : Sqd) (c : Cur) : Sqd × Cur :=
  if (c.oneOf [sCAPTAIN, sKEEPER]).2 = 0 then
    ({ q with cap := n }, if q.cap ≠ 0 then (c.oneOf [sCAPTAIN, sKEEPER]).1.reject 7 else if q.kee = n then (c.oneOf [sCAPTAIN, sKEEPER]).1.reject 8 else (c.oneOf [sCAPTAIN, sKEEPER]).1)
  else if (c.oneOf [sCAPTAIN, sKEEPER]).2 = 1 then
    ({ q with kee := n }, if q.kee ≠ 0 then (c.oneOf [sCAPTAIN, sKEEPER]).1.reject 7 else (c.oneOf [sCAPTAIN, sKEEPER]).1)
  else (q, (c.oneOf [sCAPTAIN, sKEEPER]).1)
def dutiesF : Nat → Int → Sqd → Cur → Sqd × Cur
  | 0, _, q, c => (q, c)
  | k + 1, n, q, c => if c.more = true then dutiesF k n (dutyS n q c).1 (dutyS n q c).2 else (q, c)
theorem dutyS_left (n : Int) (q : Sqd) (c : Cur) : (c.more = true → (dutyS n q c).2.left < c.left) ∧ (dutyS n q c).2.fields = c.fields ∧ (dutyS n q c).1.players = q.players ∧ (dutyS n q c).1.name = q.name := by
  obtain ⟨_, h2, h3⟩ := Cur.oneOf_left c [sCAPTAIN, sKEEPER]
  have r := fun e => Cur.reject_left (c.oneOf [sCAPTAIN, sKEEPER]).1 e
  unfold dutyS
  split
  · refine ⟨fun hm => ?_, ?_, rfl, rfl⟩
    · have := h2 hm; simp only; split
      · have := (r 7).1; omega
      · split
        · have := (r 8).1; omega
        · exact this
    · simp only; split
      · exact (r 7).2.trans h3
      · split
        · exact (r 8).2.trans h3
        · exact h3
  · split
    · refine ⟨fun hm => ?_, ?_, rfl, rfl⟩
      · have := h2 hm; simp only; split
        · have := (r 7).1; omega
        · exact this
      · simp only; split
        · exact (r 7).2.trans h3
        · exact h3
    · exact ⟨h2, h3, rfl, rfl⟩
theorem dutiesF_enough (n : Int) : ∀ (k m : Nat) (q : Sqd) (c : Cur), c.left < k → c.left < m → dutiesF k n q c = dutiesF m n q c := by
  intro k
  induction k with
  | zero => intro m q c h; omega
  | succ k ih =>
    intro m q c hk hm
    cases m with
    | zero => omega
    | succ m =>
      rw [dutiesF, dutiesF]
      split
      · rename_i h
        have := (dutyS_left n q c).1 h
        exact ih m _ _ (by omega) (by omega)
      · rfl
/-- The duties that a line names behind the player n. -/
def dutiesS (n : Int) (q : Sqd) (c : Cur) : Sqd × Cur := dutiesF (c.left + 1) n q c
theorem dutiesS_more {n : Int} {q : Sqd} {c : Cur} (h : c.more = true) : dutiesS n q c = dutiesS n (dutyS n q c).1 (dutyS n q c).2 := by
  have := (dutyS_left n q c).1 h
  unfold dutiesS
  rw [dutiesF, if_pos h]
  exact dutiesF_enough n _ _ _ _ (by omega) (by omega)
theorem dutiesS_end {n : Int} {q : Sqd} {c : Cur} (h : c.more = false) : dutiesS n q c = (q, c) := by
  unfold dutiesS
  rw [dutiesF, if_neg (by simp [h])]
def playerS (q : Sqd) (c : Cur) : Sqd × Cur :=
  dutiesS ((q.players.length : Int) + 1) { q with players := q.players ++ [(c.keyword sPLAYER).1.ident.2] } (c.keyword sPLAYER).1.ident.1
/-- The lines behind the first i. -/
def linesF : List Lin → Nat → Sqd → Sqd ⊕ Dia
  | [], _, q => .inl q
  | x :: l, i, q =>
    match (if i = 0 then ({ q with name := ((Cur.start x).keyword sSIDE).1.ident.2 }, ((Cur.start x).keyword sSIDE).1.ident.1) else playerS q (Cur.start x)) with
    | (q', c) => match c.close with
      | some d => .inr d
      | none => linesF l (i + 1) q'
def noSqd : Sqd := ⟨[], [], 0, 0⟩
def parseS (s : List UInt8) : Sqd × List Dia :=
  if (splitS s).2 ≠ [] then (noSqd, (splitS s).2)
  else if (splitS s).1 = [] then (noSqd, [⟨1, 1, 4⟩])
  else match linesF (splitS s).1 0 noSqd with
    | .inr d => (noSqd, [d])
    | .inl q => if checkS q ≠ 0 then (noSqd, [⟨1, 1, checkS q⟩]) else (q, [])
/-- The lines of a side. -/
def wordF (t : List UInt8) : Fld := ⟨t, 0, false⟩
def playerLine (q : Sqd) (i : Nat) (p : List UInt8) : Lin :=
  ⟨0, [wordF sPLAYER, wordF p] ++ (if (i : Int) + 1 = q.cap then [wordF sCAPTAIN] else []) ++ (if (i : Int) + 1 = q.kee then [wordF sKEEPER] else [])⟩
def playerLines (q : Sqd) : List (List UInt8) → Nat → List Lin
  | [], _ => []
  | p :: ps, i => playerLine q i p :: playerLines q ps (i + 1)
def sqLines (q : Sqd) : List Lin := ⟨0, [wordF sSIDE, wordF q.name]⟩ :: playerLines q q.players 0
def textS (q : Sqd) : List UInt8 × Int := if checkS q ≠ 0 then ([], checkS q) else (writeS (sqLines q), 0)
end Go.Proofs.YtoeeodemimndlaaGreatDoor
