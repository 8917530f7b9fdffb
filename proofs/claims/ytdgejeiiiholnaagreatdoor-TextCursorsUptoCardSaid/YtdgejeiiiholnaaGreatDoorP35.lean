/- Plain laws of cursors: integers; cursors that differ in the column of an error that did not happen. -/
import Derived.Test.YtdgejeiiiholnaaGreatDoorP5
import Derived.Test.YtdgejeiiiholnaaGreatDoorP30
set_option linter.unusedSimpArgs false
set_option linter.unusedVariables false
namespace Go.Proofs.YtdgejeiiiholnaaGreatDoor

/-- The next word as an integer from lo to hi. -/
def Cur.int (c : Cur) (lo hi : Int) : Cur × Int :=
  if (c.read false).2.2 = true then
    ((if (numberS (c.read false).2.1 lo hi).2 = 0 then (c.read false).1 else (c.read false).1.fail (numberS (c.read false).2.1 lo hi).2 (c.read false).1.last), (numberS (c.read false).2.1 lo hi).1)
  else ((c.read false).1, 0)
def Cur.word (c : Cur) (q : Bool) : Cur × List UInt8 := ((c.read q).1, (c.read q).2.1)
/-- The same cursor, but for the column of an error that did not happen. -/
structure Cur.sim (a b : Cur) : Prop where
  num : a.num = b.num
  fields : a.fields = b.fields
  next : a.next = b.next
  last : a.last = b.last
  err : a.err = b.err
  pos : b.err ≠ 0 → a.pos = b.pos
theorem Cur.sim.refl (c : Cur) : Cur.sim c c := ⟨rfl, rfl, rfl, rfl, rfl, fun _ => rfl⟩
theorem Cur.sim.ok {a b : Cur} (h : Cur.sim a b) (hb : b.ok) : a.ok := by unfold Cur.ok at *; rw [h.fields, h.next]; exact hb
theorem Cur.sim.fail {a b : Cur} (h : Cur.sim a b) (e col : Int) : Cur.sim (a.fail e col) (b.fail e col) := by
  unfold Cur.fail
  rw [h.err]
  by_cases hb : b.err = 0
  · rw [if_pos hb, if_pos hb]
    exact ⟨h.num, h.fields, h.next, h.last, rfl, fun _ => rfl⟩
  · rw [if_neg hb, if_neg hb]; exact h
theorem Cur.sim.read {a b : Cur} (h : Cur.sim a b) (q : Bool) : Cur.sim (a.read q).1 (b.read q).1 ∧ (a.read q).2 = (b.read q).2 := by
  unfold Cur.read
  rw [h.err, h.fields, h.next]
  by_cases hb : b.err = 0
  · rw [if_pos hb, if_pos hb]
    cases hf : b.fields[b.next]? with
    | none => exact ⟨h.fail 4 0, rfl⟩
    | some f =>
      dsimp only
      by_cases hq : f.quoted = q
      · rw [if_pos hq, if_pos hq]
        exact ⟨⟨h.num, rfl, rfl, rfl, rfl, h.pos⟩, rfl⟩
      · rw [if_neg hq, if_neg hq]
        exact ⟨h.fail 4 f.col, rfl⟩
  · rw [if_neg hb, if_neg hb]; exact ⟨h, rfl⟩
theorem Cur.sim.keyword {a b : Cur} (h : Cur.sim a b) (kw : List UInt8) : Cur.sim (a.keyword kw).1 (b.keyword kw).1 ∧ (a.keyword kw).2 = (b.keyword kw).2 := by
  obtain ⟨h1, h2⟩ := h.read false
  unfold Cur.keyword
  rw [h2, h1.last]
  refine ⟨?_, rfl⟩
  dsimp only
  split
  · exact h1.fail _ _
  · exact h1
theorem Cur.sim.ident {a b : Cur} (h : Cur.sim a b) : Cur.sim a.ident.1 b.ident.1 ∧ a.ident.2 = b.ident.2 := by
  obtain ⟨h1, h2⟩ := h.read false
  unfold Cur.ident
  rw [h2, h1.last]
  split
  · exact ⟨h1.fail _ _, rfl⟩
  · exact ⟨h1, rfl⟩
theorem Cur.sim.oneOf {a b : Cur} (h : Cur.sim a b) (l : List (List UInt8)) : Cur.sim (a.oneOf l).1 (b.oneOf l).1 ∧ (a.oneOf l).2 = (b.oneOf l).2 := by
  obtain ⟨h1, h2⟩ := h.read false
  unfold Cur.oneOf
  rw [h2, h1.last]
  split
  · refine ⟨?_, rfl⟩
    dsimp only
    split
    · exact h1.fail _ _
    · exact h1
  · exact ⟨h1, rfl⟩
theorem Cur.sim.reject {a b : Cur} (h : Cur.sim a b) (e : Int) : Cur.sim (a.reject e) (b.reject e) := by
  unfold Cur.reject
  rw [h.last]
  split
  · exact h
  · exact h.fail _ _
theorem Cur.sim.word {a b : Cur} (h : Cur.sim a b) (q : Bool) : Cur.sim (a.word q).1 (b.word q).1 ∧ (a.word q).2 = (b.word q).2 := by
  obtain ⟨h1, h2⟩ := h.read q
  unfold Cur.word
  rw [h2]
  exact ⟨h1, rfl⟩
theorem Cur.sim.close {a b : Cur} (h : Cur.sim a b) : a.close = b.close := by
  unfold Cur.close
  rw [h.err, h.num, h.fields, h.next]
  split
  · rename_i hb; rw [h.pos hb]
  · rfl
theorem Cur.sim.more {a b : Cur} (h : Cur.sim a b) : a.more = b.more := by unfold Cur.more; rw [h.err, h.fields, h.next]
/-- The program's integer writes the column even where there is no error. -/
def Cur.intP (c : Cur) (lo hi : Int) : Cur × Int :=
  if (c.read false).2.2 = true then ((c.read false).1.fail (numberS (c.read false).2.1 lo hi).2 (c.read false).1.last, (numberS (c.read false).2.1 lo hi).1)
  else ((c.read false).1, 0)
theorem Cur.sim.int {a b : Cur} (h : Cur.sim a b) (lo hi : Int) : Cur.sim (a.intP lo hi).1 (b.int lo hi).1 ∧ (a.intP lo hi).2 = (b.int lo hi).2 := by
  obtain ⟨h1, h2⟩ := h.read false
  unfold Cur.intP Cur.int
  rw [h2, h1.last]
  by_cases hk : (b.read false).2.2 = true
  · rw [if_pos hk, if_pos hk]
    refine ⟨?_, rfl⟩
    dsimp only
    by_cases he : (numberS (b.read false).2.1 lo hi).2 = 0
    · rw [if_pos he, he]
      unfold Cur.fail
      by_cases hz : (a.read false).1.err = 0
      · rw [if_pos hz]
        exact ⟨h1.num, h1.fields, h1.next, h1.last, by rw [← h1.err, hz], fun hb => absurd (by rw [← h1.err, hz]) hb⟩
      · rw [if_neg hz]; exact h1
    · rw [if_neg he]; exact h1.fail _ _
  · rw [if_neg hk, if_neg hk]; exact ⟨h1, rfl⟩
theorem Cur.int_ok {c : Cur} (h : c.ok) (lo hi : Int) : (c.int lo hi).1.ok := by
  unfold Cur.int
  split
  · dsimp only
    split
    · exact Cur.read_ok h _
    · exact Cur.fail_ok (Cur.read_ok h _) _ _
  · exact Cur.read_ok h _
theorem Cur.int_fields (c : Cur) (lo hi : Int) : (c.int lo hi).1.fields = c.fields := by
  unfold Cur.int
  split
  · dsimp only
    split
    · exact Cur.read_fields c false
    · exact (Cur.fail_left _ _ _).2.trans (Cur.read_fields c false)
  · exact Cur.read_fields c false
end Go.Proofs.YtdgejeiiiholnaaGreatDoor
