/- Plain laws for TextCursors: one call on both cursors; a nil cursor is of no matter here. -/
import Derived.Test.YtdgejeiiiholnaaGreatDoorP35
set_option linter.unusedSimpArgs false
set_option linter.unusedVariables false
namespace Go.Proofs.YtdgejeiiiholnaaGreatDoor

/-- The words of the call of kind 2. -/
def wordsC (wd : List UInt8) : List (List UInt8) := [[65], wd, [49, 50], [65]]
/-- The program's cursor behind a call of kind k. -/
def calledA (a : Cur) (k : Nat) (lo hi : Int) (wd : List UInt8) : Cur :=
  if k = 0 then (a.word false).1 else if k = 1 then (a.keyword wd).1 else if k = 2 then (a.oneOf (wordsC wd)).1 else if k = 3 then a.ident.1
  else if k = 4 then (a.intP lo hi).1 else if k = 5 then (a.word true).1 else if k = 6 then a.reject lo else a
def calledB (a : Cur) (k : Nat) (lo hi : Int) (wd : List UInt8) : Cur :=
  if k = 0 then (a.word false).1 else if k = 1 then (a.keyword wd).1 else if k = 2 then (a.oneOf (wordsC wd)).1 else if k = 3 then a.ident.1
  else if k = 4 then (a.int lo hi).1 else if k = 5 then (a.word true).1 else if k = 6 then a.reject lo else a
theorem called_sim {a b : Cur} (h : Cur.sim a b) (k : Nat) (lo hi : Int) (wd : List UInt8) : Cur.sim (calledA a k lo hi wd) (calledB b k lo hi wd) := by
  unfold calledA calledB
  repeat' split
  · exact (h.word false).1
  · exact (h.keyword wd).1
  · exact (h.oneOf _).1
  · exact h.ident.1
  · exact (h.int lo hi).1
  · exact (h.word true).1
  · exact h.reject lo
  · exact h
end Go.Proofs.YtdgejeiiiholnaaGreatDoor
