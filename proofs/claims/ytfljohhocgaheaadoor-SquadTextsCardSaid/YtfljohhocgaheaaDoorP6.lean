/- Plain specifications of package squad. -/
import Derived.Test.YtfljohhocgaheaaDoorP5
set_option linter.unusedSimpArgs false
set_option linter.unusedVariables false
namespace Go.Proofs.YtfljohhocgaheaaDoor

structure Sqd where
  name : List UInt8
  players : List (List UInt8)
  cap : Int
  kee : Int
def titleS (q : Sqd) (n : Int) : List UInt8 :=
  if n < 1 ∨ (q.players.length : Int) < n then [] else
    (q.players.getD (n - 1).toNat []) ++ (if n = q.cap then [32, 40, 99, 41] else []) ++ (if n = q.kee then [32, 40, 107, 41] else [])
/-- The first error of the players; those before them. -/
def playersErr : List (List UInt8) → List (List UInt8) → Int
  | [], _ => 0
  | p :: ps, pre => if nameS p = false then 5 else if p ∈ pre then 7 else playersErr ps (pre ++ [p])
def checkS (q : Sqd) : Int :=
  if nameS q.name = false then 5
  else if q.players.length < 2 ∨ 11 < q.players.length then 9
  else if playersErr q.players [] ≠ 0 then playersErr q.players []
  else if titleS q q.cap = [] ∨ titleS q q.kee = [] then 6 else 0
end Go.Proofs.YtfljohhocgaheaaDoor
