/-
  DERIVED. GIVEN WITH THE SEED: THE CARDS: each row of YtfnfbojaiikigaaGreatDoorRows.lean that lists a variable, with what it lists TIED to the program's text (the seventh form; the later family's looks); each row that meets fmt, with fmt's text TOLD by the authors' own Lean function (tested against real Go, not proved from fmt's source: count such statements apart). THE CARD IS WHAT COUNTS. Prove the row's statement (the work); the ties are given (YtfnfbojaiikigaaGreatDoorTie.lean); close each card by the builder's one call (the guide's Derived/Test/ToyasCard.lean, 'card_holds'). Laid BY PROGRAM, IN A SANDBOX (cutbox-door.mjs). By AI agents, Wed Nov 11 2026. No macro, syntax, notation, axiom, sorry.
-/
import Derived.Test.YtfnfbojaiikigaaGreatDoorRows
import GoSem.ClaimSeven
namespace Go.Proofs.YtfnfbojaiikigaaGreatDoor
namespace Rows

/-- THE TIED CARD OF 'scorebooktop.TopMartingale'. -/
def topMartingaleCard : Claim7 := { stood := { row := topMartingaleRow, standIns := [], harness := (true, "ce41189e2fe327effbe2c02fcc617d99bff7f1e588abad5b7153091a0c5d703a"), looks := true }, kinds := [], alts := [], laidByText := true, laidKinds := [.data, .data, .data, .data, .sentinel, .sentinel, .pinned], laidTests := true, laidLooks := .later }
def TopMartingaleCardSaid : Prop := Claim7.holds Tryz.pinned (.plain (OpenSpec.ofChange topMartingaleSpec)) topMartingaleCard

/-- THE TIED CARD OF 'scorebooklaw45.OrderChecks'. -/
def orderChecksCard : Claim7 := { stood := { row := orderChecksRow, standIns := [], harness := (true, "ce41189e2fe327effbe2c02fcc617d99bff7f1e588abad5b7153091a0c5d703a"), looks := true }, kinds := [], alts := [], laidByText := true, laidKinds := [.data, .data, .data, .data, .sentinel, .sentinel, .pinned], laidTests := true, laidLooks := .later }
def OrderChecksCardSaid : Prop := Claim7.holds Tryz.pinned (.plain (OpenSpec.ofChange orderChecksSpec)) orderChecksCard

/-- THE TIED CARD OF 'scorebooklaw45.OrderValues'. -/
def orderValuesCard : Claim7 := { stood := { row := orderValuesRow, standIns := [], harness := (true, "ce41189e2fe327effbe2c02fcc617d99bff7f1e588abad5b7153091a0c5d703a"), looks := true }, kinds := [], alts := [], laidByText := true, laidKinds := [.data, .data, .data, .data, .sentinel, .sentinel, .pinned], laidTests := true, laidLooks := .later }
def OrderValuesCardSaid : Prop := Claim7.holds Tryz.pinned (.plain (OpenSpec.ofChange orderValuesSpec)) orderValuesCard

/-- THE TIED CARD OF 'scorebooklaw45.OrderSends'. -/
def orderSendsCard : Claim7 := { stood := { row := orderSendsRow, standIns := [], harness := (true, "ce41189e2fe327effbe2c02fcc617d99bff7f1e588abad5b7153091a0c5d703a"), looks := true }, kinds := [], alts := [], laidByText := true, laidKinds := [.data, .data, .data, .data, .sentinel, .sentinel, .pinned], laidTests := true, laidLooks := .later }
def OrderSendsCardSaid : Prop := Claim7.holds Tryz.pinned (.plain (OpenSpec.ofChange orderSendsSpec)) orderSendsCard

/-- THE TIED CARD OF 'scorebooklaw45.OrderAccepts'. -/
def orderAcceptsCard : Claim7 := { stood := { row := orderAcceptsRow, standIns := [], harness := (true, "ce41189e2fe327effbe2c02fcc617d99bff7f1e588abad5b7153091a0c5d703a"), looks := true }, kinds := [], alts := [], laidByText := true, laidKinds := [.data, .data, .data, .data, .sentinel, .sentinel, .pinned], laidTests := true, laidLooks := .later }
def OrderAcceptsCardSaid : Prop := Claim7.holds Tryz.pinned (.plain (OpenSpec.ofChange orderAcceptsSpec)) orderAcceptsCard

/-- THE TIED CARD OF 'scorebooklaw45.OrderBest'. -/
def orderBestCard : Claim7 := { stood := { row := orderBestRow, standIns := [], harness := (true, "ce41189e2fe327effbe2c02fcc617d99bff7f1e588abad5b7153091a0c5d703a"), looks := true }, kinds := [], alts := [], laidByText := true, laidKinds := [.data, .data, .data, .data, .sentinel, .sentinel, .pinned], laidTests := true, laidLooks := .later }
def OrderBestCardSaid : Prop := Claim7.holds Tryz.pinned (.plain (OpenSpec.ofChange orderBestSpec)) orderBestCard

/-- THE TIED CARD OF 'scorebooklaw45.OrderFixed'. -/
def orderFixedCard : Claim7 := { stood := { row := orderFixedRow, standIns := [], harness := (true, "ce41189e2fe327effbe2c02fcc617d99bff7f1e588abad5b7153091a0c5d703a"), looks := true }, kinds := [], alts := [], laidByText := true, laidKinds := [.data, .data, .data, .data, .sentinel, .sentinel, .pinned], laidTests := true, laidLooks := .later }
def OrderFixedCardSaid : Prop := Claim7.holds Tryz.pinned (.plain (OpenSpec.ofChange orderFixedSpec)) orderFixedCard

/-- THE TIED CARD OF 'scorebooklaw45.OrderTables'. -/
def orderTablesCard : Claim7 := { stood := { row := orderTablesRow, standIns := [], harness := (true, "ce41189e2fe327effbe2c02fcc617d99bff7f1e588abad5b7153091a0c5d703a"), looks := true }, kinds := [], alts := [], laidByText := true, laidKinds := [.data, .data, .data, .data, .sentinel, .sentinel, .pinned], laidTests := true, laidLooks := .later }
def OrderTablesCardSaid : Prop := Claim7.holds Tryz.pinned (.plain (OpenSpec.ofChange orderTablesSpec)) orderTablesCard

/-- THE SECOND FORM's CARD OF 'scorebooktop.TopMartingale'. -/
def topMartingaleUptoCard : Claim7 := { stood := { row := topMartingaleUptoRow, standIns := [], harness := (true, "ce41189e2fe327effbe2c02fcc617d99bff7f1e588abad5b7153091a0c5d703a"), looks := true }, kinds := [], alts := [], laidByText := true, laidKinds := [.data, .data, .data, .data, .sentinel, .sentinel, .pinned], laidTests := true, laidLooks := .later }
def TopMartingaleUptoCardSaid : Prop := Claim7.holds Tryz.pinned (.plain (OpenSpec.upto topMartingaleSpec)) topMartingaleUptoCard

/-- THE SECOND FORM's CARD OF 'scorebooklaw45.OrderChecks'. -/
def orderChecksUptoCard : Claim7 := { stood := { row := orderChecksUptoRow, standIns := [], harness := (true, "ce41189e2fe327effbe2c02fcc617d99bff7f1e588abad5b7153091a0c5d703a"), looks := true }, kinds := [], alts := [], laidByText := true, laidKinds := [.data, .data, .data, .data, .sentinel, .sentinel, .pinned], laidTests := true, laidLooks := .later }
def OrderChecksUptoCardSaid : Prop := Claim7.holds Tryz.pinned (.plain (OpenSpec.upto orderChecksSpec)) orderChecksUptoCard

/-- THE SECOND FORM's CARD OF 'scorebooklaw45.OrderValues'. -/
def orderValuesUptoCard : Claim7 := { stood := { row := orderValuesUptoRow, standIns := [], harness := (true, "ce41189e2fe327effbe2c02fcc617d99bff7f1e588abad5b7153091a0c5d703a"), looks := true }, kinds := [], alts := [], laidByText := true, laidKinds := [.data, .data, .data, .data, .sentinel, .sentinel, .pinned], laidTests := true, laidLooks := .later }
def OrderValuesUptoCardSaid : Prop := Claim7.holds Tryz.pinned (.plain (OpenSpec.upto orderValuesSpec)) orderValuesUptoCard

/-- THE SECOND FORM's CARD OF 'scorebooklaw45.OrderSends'. -/
def orderSendsUptoCard : Claim7 := { stood := { row := orderSendsUptoRow, standIns := [], harness := (true, "ce41189e2fe327effbe2c02fcc617d99bff7f1e588abad5b7153091a0c5d703a"), looks := true }, kinds := [], alts := [], laidByText := true, laidKinds := [.data, .data, .data, .data, .sentinel, .sentinel, .pinned], laidTests := true, laidLooks := .later }
def OrderSendsUptoCardSaid : Prop := Claim7.holds Tryz.pinned (.plain (OpenSpec.upto orderSendsSpec)) orderSendsUptoCard

/-- THE SECOND FORM's CARD OF 'scorebooklaw45.OrderAccepts'. -/
def orderAcceptsUptoCard : Claim7 := { stood := { row := orderAcceptsUptoRow, standIns := [], harness := (true, "ce41189e2fe327effbe2c02fcc617d99bff7f1e588abad5b7153091a0c5d703a"), looks := true }, kinds := [], alts := [], laidByText := true, laidKinds := [.data, .data, .data, .data, .sentinel, .sentinel, .pinned], laidTests := true, laidLooks := .later }
def OrderAcceptsUptoCardSaid : Prop := Claim7.holds Tryz.pinned (.plain (OpenSpec.upto orderAcceptsSpec)) orderAcceptsUptoCard

/-- THE SECOND FORM's CARD OF 'scorebooklaw45.OrderBest'. -/
def orderBestUptoCard : Claim7 := { stood := { row := orderBestUptoRow, standIns := [], harness := (true, "ce41189e2fe327effbe2c02fcc617d99bff7f1e588abad5b7153091a0c5d703a"), looks := true }, kinds := [], alts := [], laidByText := true, laidKinds := [.data, .data, .data, .data, .sentinel, .sentinel, .pinned], laidTests := true, laidLooks := .later }
def OrderBestUptoCardSaid : Prop := Claim7.holds Tryz.pinned (.plain (OpenSpec.upto orderBestSpec)) orderBestUptoCard

/-- THE SECOND FORM's CARD OF 'scorebooklaw45.OrderFixed'. -/
def orderFixedUptoCard : Claim7 := { stood := { row := orderFixedUptoRow, standIns := [], harness := (true, "ce41189e2fe327effbe2c02fcc617d99bff7f1e588abad5b7153091a0c5d703a"), looks := true }, kinds := [], alts := [], laidByText := true, laidKinds := [.data, .data, .data, .data, .sentinel, .sentinel, .pinned], laidTests := true, laidLooks := .later }
def OrderFixedUptoCardSaid : Prop := Claim7.holds Tryz.pinned (.plain (OpenSpec.upto orderFixedSpec)) orderFixedUptoCard

/-- THE SECOND FORM's CARD OF 'scorebooklaw45.OrderTables'. -/
def orderTablesUptoCard : Claim7 := { stood := { row := orderTablesUptoRow, standIns := [], harness := (true, "ce41189e2fe327effbe2c02fcc617d99bff7f1e588abad5b7153091a0c5d703a"), looks := true }, kinds := [], alts := [], laidByText := true, laidKinds := [.data, .data, .data, .data, .sentinel, .sentinel, .pinned], laidTests := true, laidLooks := .later }
def OrderTablesUptoCardSaid : Prop := Claim7.holds Tryz.pinned (.plain (OpenSpec.upto orderTablesSpec)) orderTablesUptoCard
end Rows
end Go.Proofs.YtfnfbojaiikigaaGreatDoor
