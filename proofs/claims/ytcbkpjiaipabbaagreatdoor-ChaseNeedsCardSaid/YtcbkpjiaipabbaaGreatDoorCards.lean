/-
  DERIVED. GIVEN WITH THE SEED: THE CARDS: each row of YtcbkpjiaipabbaaGreatDoorRows.lean that lists a variable, with what it lists TIED to the program's text (the seventh form; the later family's looks); each row that meets fmt, with fmt's text TOLD by the authors' own Lean function (tested against real Go, not proved from fmt's source: count such statements apart). THE CARD IS WHAT COUNTS. Prove the row's statement (the work); the ties are given (YtcbkpjiaipabbaaGreatDoorTie.lean); close each card by the builder's one call (the guide's Derived/Test/ToyasCard.lean, 'card_holds'). Laid BY PROGRAM, IN A SANDBOX (cutbox-door.mjs). By AI agents, Wed Nov 11 2026. No macro, syntax, notation, axiom, sorry.
-/
import Derived.Test.YtcbkpjiaipabbaaGreatDoorRows
import GoSem.ClaimSeven
namespace Go.Proofs.YtcbkpjiaipabbaaGreatDoor
namespace Rows

/-- THE TIED CARD OF 'scorebooklaw44.ChaseValues'. -/
def chaseValuesCard : Claim7 := { stood := { row := chaseValuesRow, standIns := [], harness := (true, "73243531cb2e995958ab3a5f0afaec940f9823e437d72a84688b42d3e2a55413"), looks := true }, kinds := [], alts := [], laidByText := true, laidKinds := [.data, .data, .data, .data, .sentinel, .sentinel, .pinned], laidTests := true, laidLooks := .later }
def ChaseValuesCardSaid : Prop := Claim7.holds Tryz.pinned (.plain (OpenSpec.ofChange chaseValuesSpec)) chaseValuesCard

/-- THE TIED CARD OF 'scorebooklaw44.ChaseNeeds'. -/
def chaseNeedsCard : Claim7 := { stood := { row := chaseNeedsRow, standIns := [], harness := (true, "73243531cb2e995958ab3a5f0afaec940f9823e437d72a84688b42d3e2a55413"), looks := true }, kinds := [], alts := [], laidByText := true, laidKinds := [.data, .data, .data, .data, .sentinel, .sentinel, .pinned], laidTests := true, laidLooks := .later }
def ChaseNeedsCardSaid : Prop := Claim7.holds Tryz.pinned (.plain (OpenSpec.ofChange chaseNeedsSpec)) chaseNeedsCard

/-- THE TIED CARD OF 'scorebooklaw44.ChaseChecks'. -/
def chaseChecksCard : Claim7 := { stood := { row := chaseChecksRow, standIns := [], harness := (true, "73243531cb2e995958ab3a5f0afaec940f9823e437d72a84688b42d3e2a55413"), looks := true }, kinds := [], alts := [], laidByText := true, laidKinds := [.data, .data, .data, .data, .sentinel, .sentinel, .pinned], laidTests := true, laidLooks := .later }
def ChaseChecksCardSaid : Prop := Claim7.holds Tryz.pinned (.plain (OpenSpec.ofChange chaseChecksSpec)) chaseChecksCard

/-- THE TIED CARD OF 'scorebooklaw44.ChaseSteps'. -/
def chaseStepsCard : Claim7 := { stood := { row := chaseStepsRow, standIns := [], harness := (true, "73243531cb2e995958ab3a5f0afaec940f9823e437d72a84688b42d3e2a55413"), looks := true }, kinds := [], alts := [], laidByText := true, laidKinds := [.data, .data, .data, .data, .sentinel, .sentinel, .pinned], laidTests := true, laidLooks := .later }
def ChaseStepsCardSaid : Prop := Claim7.holds Tryz.pinned (.plain (OpenSpec.ofChange chaseStepsSpec)) chaseStepsCard

/-- THE TIED CARD OF 'scorebooklaw44.ChaseMartingale'. -/
def chaseMartingaleCard : Claim7 := { stood := { row := chaseMartingaleRow, standIns := [], harness := (true, "73243531cb2e995958ab3a5f0afaec940f9823e437d72a84688b42d3e2a55413"), looks := true }, kinds := [], alts := [], laidByText := true, laidKinds := [.data, .data, .data, .data, .sentinel, .sentinel, .pinned], laidTests := true, laidLooks := .later }
def ChaseMartingaleCardSaid : Prop := Claim7.holds Tryz.pinned (.plain (OpenSpec.ofChange chaseMartingaleSpec)) chaseMartingaleCard

/-- THE SECOND FORM's CARD OF 'scorebooklaw44.ChaseValues'. -/
def chaseValuesUptoCard : Claim7 := { stood := { row := chaseValuesUptoRow, standIns := [], harness := (true, "73243531cb2e995958ab3a5f0afaec940f9823e437d72a84688b42d3e2a55413"), looks := true }, kinds := [], alts := [], laidByText := true, laidKinds := [.data, .data, .data, .data, .sentinel, .sentinel, .pinned], laidTests := true, laidLooks := .later }
def ChaseValuesUptoCardSaid : Prop := Claim7.holds Tryz.pinned (.plain (OpenSpec.upto chaseValuesSpec)) chaseValuesUptoCard

/-- THE SECOND FORM's CARD OF 'scorebooklaw44.ChaseNeeds'. -/
def chaseNeedsUptoCard : Claim7 := { stood := { row := chaseNeedsUptoRow, standIns := [], harness := (true, "73243531cb2e995958ab3a5f0afaec940f9823e437d72a84688b42d3e2a55413"), looks := true }, kinds := [], alts := [], laidByText := true, laidKinds := [.data, .data, .data, .data, .sentinel, .sentinel, .pinned], laidTests := true, laidLooks := .later }
def ChaseNeedsUptoCardSaid : Prop := Claim7.holds Tryz.pinned (.plain (OpenSpec.upto chaseNeedsSpec)) chaseNeedsUptoCard

/-- THE SECOND FORM's CARD OF 'scorebooklaw44.ChaseChecks'. -/
def chaseChecksUptoCard : Claim7 := { stood := { row := chaseChecksUptoRow, standIns := [], harness := (true, "73243531cb2e995958ab3a5f0afaec940f9823e437d72a84688b42d3e2a55413"), looks := true }, kinds := [], alts := [], laidByText := true, laidKinds := [.data, .data, .data, .data, .sentinel, .sentinel, .pinned], laidTests := true, laidLooks := .later }
def ChaseChecksUptoCardSaid : Prop := Claim7.holds Tryz.pinned (.plain (OpenSpec.upto chaseChecksSpec)) chaseChecksUptoCard

/-- THE SECOND FORM's CARD OF 'scorebooklaw44.ChaseSteps'. -/
def chaseStepsUptoCard : Claim7 := { stood := { row := chaseStepsUptoRow, standIns := [], harness := (true, "73243531cb2e995958ab3a5f0afaec940f9823e437d72a84688b42d3e2a55413"), looks := true }, kinds := [], alts := [], laidByText := true, laidKinds := [.data, .data, .data, .data, .sentinel, .sentinel, .pinned], laidTests := true, laidLooks := .later }
def ChaseStepsUptoCardSaid : Prop := Claim7.holds Tryz.pinned (.plain (OpenSpec.upto chaseStepsSpec)) chaseStepsUptoCard

/-- THE SECOND FORM's CARD OF 'scorebooklaw44.ChaseMartingale'. -/
def chaseMartingaleUptoCard : Claim7 := { stood := { row := chaseMartingaleUptoRow, standIns := [], harness := (true, "73243531cb2e995958ab3a5f0afaec940f9823e437d72a84688b42d3e2a55413"), looks := true }, kinds := [], alts := [], laidByText := true, laidKinds := [.data, .data, .data, .data, .sentinel, .sentinel, .pinned], laidTests := true, laidLooks := .later }
def ChaseMartingaleUptoCardSaid : Prop := Claim7.holds Tryz.pinned (.plain (OpenSpec.upto chaseMartingaleSpec)) chaseMartingaleUptoCard
end Rows
end Go.Proofs.YtcbkpjiaipabbaaGreatDoor
