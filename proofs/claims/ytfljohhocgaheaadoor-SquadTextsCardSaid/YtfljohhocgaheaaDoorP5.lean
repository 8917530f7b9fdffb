/- Plain specifications of package text: the cursor. -/
import Derived.Test.YtfljohhocgaheaaDoorP4
set_option linter.unusedSimpArgs false
set_option linter.unusedVariables false
namespace Go.Proofs.YtfljohhocgaheaaDoor

/-- A cursor: the line, the index of the next field, the column of the field read last, the first error and its column. -/
structure Cur where
  num : Int
  fields : List Fld
  next : Nat
  last : Int
  err : Int
  pos : Int
def Cur.start (x : Lin) : Cur := ⟨x.num, x.fields, 0, 0, 0, 0⟩
def Cur.fail (c : Cur) (e col : Int) : Cur := if c.err = 0 then { c with err := e, pos := col } else c
def Cur.read (c : Cur) (q : Bool) : Cur × List UInt8 × Bool :=
  if c.err = 0 then
    match c.fields[c.next]? with
    | none => (c.fail 4 0, [], false)
    | some f => if f.quoted = q then ({ c with next := c.next + 1, last := f.col }, f.text, true) else (c.fail 4 f.col, [], false)
  else (c, [], false)
def Cur.more (c : Cur) : Bool := decide (c.err = 0) && decide (c.next < c.fields.length)
def Cur.ok (c : Cur) : Prop := c.next ≤ c.fields.length
theorem Cur.fail_ok {c : Cur} (h : c.ok) (e col : Int) : (c.fail e col).ok := by unfold Cur.fail; split <;> exact h
theorem Cur.read_ok {c : Cur} (h : c.ok) (q : Bool) : (c.read q).1.ok := by
  unfold Cur.read
  split
  · split
    · exact Cur.fail_ok h _ _
    · rename_i f hf
      have := (List.getElem?_eq_some_iff.1 hf).1
      split
      · unfold Cur.ok; exact this
      · exact Cur.fail_ok h _ _
  · exact h
theorem Cur.read_fields (c : Cur) (q : Bool) : (c.read q).1.fields = c.fields := by
  unfold Cur.read Cur.fail; repeat' split
  all_goals rfl
theorem Cur.read_text (c : Cur) (q : Bool) {n : Nat} (h : ∀ f ∈ c.fields, f.text.length ≤ n) : (c.read q).2.1.length ≤ n := by
  unfold Cur.read
  split
  · split
    · simp
    · rename_i f hf
      split
      · exact h f (List.mem_of_getElem? hf)
      · simp
  · simp
/-- The text of the next word, read as a name. -/
def letterB (c : UInt8) : Bool := 65 ≤ c && c ≤ 90
def tailB (c : UInt8) : Bool := letterB c || c == 95 || c == 45 || (48 ≤ c && c ≤ 57)
/-- A name: a letter, then letters, digits and two signs; at most 16 bytes. -/
def nameS : List UInt8 → Bool
  | [] => false
  | c :: l => letterB c && l.all tailB && decide (l.length ≤ 15)
def Cur.keyword (c : Cur) (kw : List UInt8) : Cur × Bool :=
  ((if (c.read false).2.2 = true ∧ (c.read false).2.1 ≠ kw then (c.read false).1.fail 4 (c.read false).1.last else (c.read false).1), (c.read false).2.2 && decide ((c.read false).2.1 = kw))
def Cur.ident (c : Cur) : Cur × List UInt8 :=
  if (c.read false).2.2 = true ∧ nameS (c.read false).2.1 = false then ((c.read false).1.fail 5 (c.read false).1.last, []) else ((c.read false).1, (c.read false).2.1)
/-- Where a text stands in a list: -1 if it does not. -/
def indexF (s : List UInt8) : List (List UInt8) → Nat → Int
  | [], _ => -1
  | a :: l, i => if a = s then i else indexF s l (i + 1)
def indexS (l : List (List UInt8)) (s : List UInt8) : Int := indexF s l 0
theorem indexF_le (s : List UInt8) : ∀ (l : List (List UInt8)) (i : Nat), -1 ≤ indexF s l i ∧ indexF s l i + 1 ≤ i + l.length := by
  intro l
  induction l with
  | nil => intro i; simp [indexF] <;> omega
  | cons a l ih =>
    intro i
    rw [indexF]
    have := ih (i + 1)
    split
    · simp; omega
    · simp; omega
theorem indexS_le (l : List (List UInt8)) (s : List UInt8) : -1 ≤ indexS l s ∧ indexS l s + 1 ≤ l.length := by
  have := indexF_le s l 0
  unfold indexS; simpa using this
def Cur.oneOf (c : Cur) (l : List (List UInt8)) : Cur × Int :=
  if (c.read false).2.2 = true then ((if indexS l (c.read false).2.1 < 0 then (c.read false).1.fail 4 (c.read false).1.last else (c.read false).1), indexS l (c.read false).2.1) else ((c.read false).1, -1)
def Cur.reject (c : Cur) (e : Int) : Cur := if e = 0 then c else c.fail e c.last
def Cur.close (c : Cur) : Option Dia :=
  if c.err ≠ 0 then some ⟨c.num, c.pos, c.err⟩ else match c.fields[c.next]? with | some f => some ⟨c.num, f.col, 4⟩ | none => none
end Go.Proofs.YtfljohhocgaheaaDoor
