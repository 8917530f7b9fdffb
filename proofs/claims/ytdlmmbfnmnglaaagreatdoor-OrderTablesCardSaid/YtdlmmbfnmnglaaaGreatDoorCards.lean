/-
  DERIVED. GIVEN WITH THE SEED: THE CARDS: each row of YtdlmmbfnmnglaaaGreatDoorRows.lean that lists a variable, with what it lists TIED to the program's text (the seventh form; the later family's looks); each row that meets fmt, with fmt's text TOLD by the authors' own Lean function (tested against real Go, not proved from fmt's source: count such statements apart). THE CARD IS WHAT COUNTS. Prove the row's statement (the work); the ties are given (YtdlmmbfnmnglaaaGreatDoorTie.lean); close each card by the builder's one call (the guide's Derived/Test/ToyasCard.lean, 'card_holds'). Laid BY PROGRAM, IN A SANDBOX (cutbox-door.mjs). By AI agents, Wed Nov 11 2026. No macro, syntax, notation, axiom, sorry.
-/
import Derived.Test.YtdlmmbfnmnglaaaGreatDoorRows
import GoSem.ClaimSeven
namespace Go.Proofs.YtdlmmbfnmnglaaaGreatDoor
namespace Rows

/-- THE TIED CARD OF 'scorebooklaw44.ChaseAccepts'. -/
def chaseAcceptsCard : Claim7 := { stood := { row := chaseAcceptsRow, standIns := [], harness := (true, "df8528722e35b503d4db44fd2ff4dfa762704ae33149a0a6033222a5126e9797"), looks := true }, kinds := [], alts := [], laidByText := true, laidKinds := [.data, .data, .data, .data, .sentinel, .sentinel, .pinned], laidTests := true, laidLooks := .later }
def ChaseAcceptsCardSaid : Prop := Claim7.holds Tryz.pinned (.plain (OpenSpec.ofChange chaseAcceptsSpec)) chaseAcceptsCard

/-- THE TIED CARD OF 'scorebooklaw45.OrderAccepts'. -/
def orderAcceptsCard : Claim7 := { stood := { row := orderAcceptsRow, standIns := [], harness := (true, "df8528722e35b503d4db44fd2ff4dfa762704ae33149a0a6033222a5126e9797"), looks := true }, kinds := [], alts := [], laidByText := true, laidKinds := [.data, .data, .data, .data, .sentinel, .sentinel, .pinned], laidTests := true, laidLooks := .later }
def OrderAcceptsCardSaid : Prop := Claim7.holds Tryz.pinned (.plain (OpenSpec.ofChange orderAcceptsSpec)) orderAcceptsCard

/-- THE TIED CARD OF 'scorebooklaw44.ChaseTables'. -/
def chaseTablesCard : Claim7 := { stood := { row := chaseTablesRow, standIns := [], harness := (true, "df8528722e35b503d4db44fd2ff4dfa762704ae33149a0a6033222a5126e9797"), looks := true }, kinds := [], alts := [], laidByText := true, laidKinds := [.data, .data, .data, .data, .sentinel, .sentinel, .pinned], laidTests := true, laidLooks := .later }
def ChaseTablesCardSaid : Prop := Claim7.holds Tryz.pinned (.plain (OpenSpec.ofChange chaseTablesSpec)) chaseTablesCard

/-- THE TIED CARD OF 'scorebooklaw45.OrderTables'. -/
def orderTablesCard : Claim7 := { stood := { row := orderTablesRow, standIns := [], harness := (true, "df8528722e35b503d4db44fd2ff4dfa762704ae33149a0a6033222a5126e9797"), looks := true }, kinds := [], alts := [], laidByText := true, laidKinds := [.data, .data, .data, .data, .sentinel, .sentinel, .pinned], laidTests := true, laidLooks := .later }
def OrderTablesCardSaid : Prop := Claim7.holds Tryz.pinned (.plain (OpenSpec.ofChange orderTablesSpec)) orderTablesCard

/-- THE SECOND FORM's CARD OF 'scorebooklaw44.ChaseAccepts'. -/
def chaseAcceptsUptoCard : Claim7 := { stood := { row := chaseAcceptsUptoRow, standIns := [], harness := (true, "df8528722e35b503d4db44fd2ff4dfa762704ae33149a0a6033222a5126e9797"), looks := true }, kinds := [], alts := [], laidByText := true, laidKinds := [.data, .data, .data, .data, .sentinel, .sentinel, .pinned], laidTests := true, laidLooks := .later }
def ChaseAcceptsUptoCardSaid : Prop := Claim7.holds Tryz.pinned (.plain (OpenSpec.upto chaseAcceptsSpec)) chaseAcceptsUptoCard

/-- THE SECOND FORM's CARD OF 'scorebooklaw45.OrderAccepts'. -/
def orderAcceptsUptoCard : Claim7 := { stood := { row := orderAcceptsUptoRow, standIns := [], harness := (true, "df8528722e35b503d4db44fd2ff4dfa762704ae33149a0a6033222a5126e9797"), looks := true }, kinds := [], alts := [], laidByText := true, laidKinds := [.data, .data, .data, .data, .sentinel, .sentinel, .pinned], laidTests := true, laidLooks := .later }
def OrderAcceptsUptoCardSaid : Prop := Claim7.holds Tryz.pinned (.plain (OpenSpec.upto orderAcceptsSpec)) orderAcceptsUptoCard

/-- THE SECOND FORM's CARD OF 'scorebooklaw44.ChaseTables'. -/
def chaseTablesUptoCard : Claim7 := { stood := { row := chaseTablesUptoRow, standIns := [], harness := (true, "df8528722e35b503d4db44fd2ff4dfa762704ae33149a0a6033222a5126e9797"), looks := true }, kinds := [], alts := [], laidByText := true, laidKinds := [.data, .data, .data, .data, .sentinel, .sentinel, .pinned], laidTests := true, laidLooks := .later }
def ChaseTablesUptoCardSaid : Prop := Claim7.holds Tryz.pinned (.plain (OpenSpec.upto chaseTablesSpec)) chaseTablesUptoCard

/-- THE SECOND FORM's CARD OF 'scorebooklaw45.OrderTables'. -/
def orderTablesUptoCard : Claim7 := { stood := { row := orderTablesUptoRow, standIns := [], harness := (true, "df8528722e35b503d4db44fd2ff4dfa762704ae33149a0a6033222a5126e9797"), looks := true }, kinds := [], alts := [], laidByText := true, laidKinds := [.data, .data, .data, .data, .sentinel, .sentinel, .pinned], laidTests := true, laidLooks := .later }
def OrderTablesUptoCardSaid : Prop := Claim7.holds Tryz.pinned (.plain (OpenSpec.upto orderTablesSpec)) orderTablesUptoCard
end Rows
end Go.Proofs.YtdlmmbfnmnglaaaGreatDoor
