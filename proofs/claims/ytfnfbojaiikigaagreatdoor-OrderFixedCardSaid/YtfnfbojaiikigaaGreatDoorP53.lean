/- Plain specifications of chance: percentages, the text of a distribution, reading it. -/
import Derived.Test.YtfnfbojaiikigaaGreatDoorP51
import Derived.Test.YtfnfbojaiikigaaGreatDoorPP
import Derived.Lib.Join
import Derived.Lib.IndexMore
set_option linter.unusedSimpArgs false
set_option linter.unusedVariables false
namespace Go.Proofs.YtfnfbojaiikigaaGreatDoor

def pctH (wt : Int) (n : Nat) : Int := (20000 * wt + unitV n) / (2 * unitV n)
def pctS (wt n : Int) : List UInt8 × Int :=
  if n < 0 ∨ 12 < n then ([], 2) else if wt < 0 ∨ unitV n.toNat < wt then ([], 2)
  else (Lib.itoa (pctH wt n.toNat / 100) ++ [46] ++ padS (pctH wt n.toNat % 100) 2, 0)
def otcW (o : Otc) : List UInt8 := Lib.itoa o.runs ++ (if o.wick = true then [87] else []) ++ [58] ++ Lib.itoa o.wt
def textC (d : List Otc) : List UInt8 × Int := if checkD d ≠ 0 then ([], checkD d) else (Lib.join (d.map otcW) [32], 0)
/-- The parts of a piece: before the colon (a W at its end taken off), is there a W, behind the colon. -/
def partA (p : List UInt8) : List UInt8 := Lib.trimSuffix (Lib.cut p [58]).1 [87]
def partW (p : List UInt8) : Bool := Lib.hasSuffix (Lib.cut p [58]).1 [87]
def partB (p : List UInt8) : List UInt8 := (Lib.cut p [58]).2.1
def pieceOk (p : List UInt8) : Bool := decide ((numberS (partA p) 0 7).2 = 0) && decide ((numberS (partB p) 1 16).2 = 0)
def pieceO (p : List UInt8) : Otc := ⟨(numberS (partA p) 0 7).1, partW p, (numberS (partB p) 1 16).1⟩
def parseC (s : List UInt8) : List Otc × Int :=
  if (pieces 32 s).all pieceOk = false then ([], 4)
  else if (textC ((pieces 32 s).map pieceO)).2 ≠ 0 ∨ (textC ((pieces 32 s).map pieceO)).1 ≠ s then ([], 4)
  else ((pieces 32 s).map pieceO, 0)
theorem pctH_bd {wt : Int} {n : Nat} (hn : n ≤ 12) (h0 : 0 ≤ wt) (h1 : wt ≤ unitV n) : 0 ≤ pctH wt n ∧ pctH wt n ≤ 10000 ∧ 0 ≤ 20000 * wt + unitV n ∧ 20000 * wt + unitV n ≤ 5629781100000000000 ∧ 0 < 2 * unitV n ∧ 2 * unitV n ≤ 562949953421312 := by
  have hu := unitV_le hn
  unfold pctH
  refine ⟨Int.ediv_nonneg (by omega) (by omega), ?_, by omega, by omega, by omega, by omega⟩
  have : (20000 * wt + unitV n) / (2 * unitV n) < 10001 := Int.ediv_lt_of_lt_mul (by omega) (by omega)
  omega
end Go.Proofs.YtfnfbojaiikigaaGreatDoor
