/-
  DERIVED. GIVEN WITH THE SEED: THE CARDS: each row of YtjchapoggmipbaaGreatDoorRows.lean that lists a variable, with what it lists TIED to the program's text (the seventh form; the later family's looks); each row that meets fmt, with fmt's text TOLD by the authors' own Lean function (tested against real Go, not proved from fmt's source: count such statements apart). THE CARD IS WHAT COUNTS. Prove the row's statement (the work); the ties are given (YtjchapoggmipbaaGreatDoorTie.lean); close each card by the builder's one call (the guide's Derived/Test/ToyasCard.lean, 'card_holds'). Laid BY PROGRAM, IN A SANDBOX (cutbox-door.mjs). By AI agents, Wed Nov 11 2026. No macro, syntax, notation, axiom, sorry.
-/
import Derived.Test.YtjchapoggmipbaaGreatDoorRows
import GoSem.ClaimSeven
namespace Go.Proofs.YtjchapoggmipbaaGreatDoor
namespace Rows

/-- THE TIED CARD OF 'scorebooktop.TopPlans'. -/
def topPlansCard : Claim7 := { stood := { row := topPlansRow, standIns := [], harness := (true, "8b7d3118080f964f1026d53b20e1f108c9f186551dab290f0f3729b7b91db972"), looks := true }, kinds := [], alts := [], laidByText := true, laidKinds := [.data, .data, .data, .data, .sentinel, .sentinel, .pinned], laidTests := true, laidLooks := .later }
def TopPlansCardSaid : Prop := Claim7.holds Tryz.pinned (.plain (OpenSpec.ofChange topPlansSpec)) topPlansCard

/-- THE SECOND FORM's CARD OF 'scorebooktop.TopPlans'. -/
def topPlansUptoCard : Claim7 := { stood := { row := topPlansUptoRow, standIns := [], harness := (true, "8b7d3118080f964f1026d53b20e1f108c9f186551dab290f0f3729b7b91db972"), looks := true }, kinds := [], alts := [], laidByText := true, laidKinds := [.data, .data, .data, .data, .sentinel, .sentinel, .pinned], laidTests := true, laidLooks := .later }
def TopPlansUptoCardSaid : Prop := Claim7.holds Tryz.pinned (.plain (OpenSpec.upto topPlansSpec)) topPlansUptoCard
end Rows
end Go.Proofs.YtjchapoggmipbaaGreatDoor
