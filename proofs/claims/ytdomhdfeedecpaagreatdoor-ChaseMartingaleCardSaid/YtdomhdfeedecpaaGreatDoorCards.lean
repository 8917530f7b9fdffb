/-
  DERIVED. GIVEN WITH THE SEED: THE CARDS: each row of YtdomhdfeedecpaaGreatDoorRows.lean that lists a variable, with what it lists TIED to the program's text (the seventh form; the later family's looks); each row that meets fmt, with fmt's text TOLD by the authors' own Lean function (tested against real Go, not proved from fmt's source: count such statements apart). THE CARD IS WHAT COUNTS. Prove the row's statement (the work); the ties are given (YtdomhdfeedecpaaGreatDoorTie.lean); close each card by the builder's one call (the guide's Derived/Test/ToyasCard.lean, 'card_holds'). Laid BY PROGRAM, IN A SANDBOX (cutbox-door.mjs). By AI agents, Wed Nov 11 2026. No macro, syntax, notation, axiom, sorry.
-/
import Derived.Test.YtdomhdfeedecpaaGreatDoorRows
import GoSem.ClaimSeven
namespace Go.Proofs.YtdomhdfeedecpaaGreatDoor
namespace Rows

/-- THE TIED CARD OF 'scorebooklaw44.ChaseChecks'. -/
def chaseChecksCard : Claim7 := { stood := { row := chaseChecksRow, standIns := [], harness := (true, "b57af55b0438fd98baa7a156e6bf71f53a4757fb253df27cc2be93e673785988"), looks := true }, kinds := [], alts := [], laidByText := true, laidKinds := [.data, .data, .data, .data, .sentinel, .sentinel, .pinned], laidTests := true, laidLooks := .later }
def ChaseChecksCardSaid : Prop := Claim7.holds Tryz.pinned (.plain (OpenSpec.ofChange chaseChecksSpec)) chaseChecksCard

/-- THE TIED CARD OF 'scorebooklaw44.ChaseSteps'. -/
def chaseStepsCard : Claim7 := { stood := { row := chaseStepsRow, standIns := [], harness := (true, "b57af55b0438fd98baa7a156e6bf71f53a4757fb253df27cc2be93e673785988"), looks := true }, kinds := [], alts := [], laidByText := true, laidKinds := [.data, .data, .data, .data, .sentinel, .sentinel, .pinned], laidTests := true, laidLooks := .later }
def ChaseStepsCardSaid : Prop := Claim7.holds Tryz.pinned (.plain (OpenSpec.ofChange chaseStepsSpec)) chaseStepsCard

/-- THE TIED CARD OF 'scorebooklaw44.ChaseMartingale'. -/
def chaseMartingaleCard : Claim7 := { stood := { row := chaseMartingaleRow, standIns := [], harness := (true, "b57af55b0438fd98baa7a156e6bf71f53a4757fb253df27cc2be93e673785988"), looks := true }, kinds := [], alts := [], laidByText := true, laidKinds := [.data, .data, .data, .data, .sentinel, .sentinel, .pinned], laidTests := true, laidLooks := .later }
def ChaseMartingaleCardSaid : Prop := Claim7.holds Tryz.pinned (.plain (OpenSpec.ofChange chaseMartingaleSpec)) chaseMartingaleCard

/-- THE TIED CARD OF 'scorebooklaw44.ChaseAccepts'. -/
def chaseAcceptsCard : Claim7 := { stood := { row := chaseAcceptsRow, standIns := [], harness := (true, "b57af55b0438fd98baa7a156e6bf71f53a4757fb253df27cc2be93e673785988"), looks := true }, kinds := [], alts := [], laidByText := true, laidKinds := [.data, .data, .data, .data, .sentinel, .sentinel, .pinned], laidTests := true, laidLooks := .later }
def ChaseAcceptsCardSaid : Prop := Claim7.holds Tryz.pinned (.plain (OpenSpec.ofChange chaseAcceptsSpec)) chaseAcceptsCard

/-- THE TIED CARD OF 'scorebooklaw44.ChaseTables'. -/
def chaseTablesCard : Claim7 := { stood := { row := chaseTablesRow, standIns := [], harness := (true, "b57af55b0438fd98baa7a156e6bf71f53a4757fb253df27cc2be93e673785988"), looks := true }, kinds := [], alts := [], laidByText := true, laidKinds := [.data, .data, .data, .data, .sentinel, .sentinel, .pinned], laidTests := true, laidLooks := .later }
def ChaseTablesCardSaid : Prop := Claim7.holds Tryz.pinned (.plain (OpenSpec.ofChange chaseTablesSpec)) chaseTablesCard

/-- THE SECOND FORM's CARD OF 'scorebooklaw44.ChaseChecks'. -/
def chaseChecksUptoCard : Claim7 := { stood := { row := chaseChecksUptoRow, standIns := [], harness := (true, "b57af55b0438fd98baa7a156e6bf71f53a4757fb253df27cc2be93e673785988"), looks := true }, kinds := [], alts := [], laidByText := true, laidKinds := [.data, .data, .data, .data, .sentinel, .sentinel, .pinned], laidTests := true, laidLooks := .later }
def ChaseChecksUptoCardSaid : Prop := Claim7.holds Tryz.pinned (.plain (OpenSpec.upto chaseChecksSpec)) chaseChecksUptoCard

/-- THE SECOND FORM's CARD OF 'scorebooklaw44.ChaseSteps'. -/
def chaseStepsUptoCard : Claim7 := { stood := { row := chaseStepsUptoRow, standIns := [], harness := (true, "b57af55b0438fd98baa7a156e6bf71f53a4757fb253df27cc2be93e673785988"), looks := true }, kinds := [], alts := [], laidByText := true, laidKinds := [.data, .data, .data, .data, .sentinel, .sentinel, .pinned], laidTests := true, laidLooks := .later }
def ChaseStepsUptoCardSaid : Prop := Claim7.holds Tryz.pinned (.plain (OpenSpec.upto chaseStepsSpec)) chaseStepsUptoCard

/-- THE SECOND FORM's CARD OF 'scorebooklaw44.ChaseMartingale'. -/
def chaseMartingaleUptoCard : Claim7 := { stood := { row := chaseMartingaleUptoRow, standIns := [], harness := (true, "b57af55b0438fd98baa7a156e6bf71f53a4757fb253df27cc2be93e673785988"), looks := true }, kinds := [], alts := [], laidByText := true, laidKinds := [.data, .data, .data, .data, .sentinel, .sentinel, .pinned], laidTests := true, laidLooks := .later }
def ChaseMartingaleUptoCardSaid : Prop := Claim7.holds Tryz.pinned (.plain (OpenSpec.upto chaseMartingaleSpec)) chaseMartingaleUptoCard

/-- THE SECOND FORM's CARD OF 'scorebooklaw44.ChaseAccepts'. -/
def chaseAcceptsUptoCard : Claim7 := { stood := { row := chaseAcceptsUptoRow, standIns := [], harness := (true, "b57af55b0438fd98baa7a156e6bf71f53a4757fb253df27cc2be93e673785988"), looks := true }, kinds := [], alts := [], laidByText := true, laidKinds := [.data, .data, .data, .data, .sentinel, .sentinel, .pinned], laidTests := true, laidLooks := .later }
def ChaseAcceptsUptoCardSaid : Prop := Claim7.holds Tryz.pinned (.plain (OpenSpec.upto chaseAcceptsSpec)) chaseAcceptsUptoCard

/-- THE SECOND FORM's CARD OF 'scorebooklaw44.ChaseTables'. -/
def chaseTablesUptoCard : Claim7 := { stood := { row := chaseTablesUptoRow, standIns := [], harness := (true, "b57af55b0438fd98baa7a156e6bf71f53a4757fb253df27cc2be93e673785988"), looks := true }, kinds := [], alts := [], laidByText := true, laidKinds := [.data, .data, .data, .data, .sentinel, .sentinel, .pinned], laidTests := true, laidLooks := .later }
def ChaseTablesUptoCardSaid : Prop := Claim7.holds Tryz.pinned (.plain (OpenSpec.upto chaseTablesSpec)) chaseTablesUptoCard
end Rows
end Go.Proofs.YtdomhdfeedecpaaGreatDoor
