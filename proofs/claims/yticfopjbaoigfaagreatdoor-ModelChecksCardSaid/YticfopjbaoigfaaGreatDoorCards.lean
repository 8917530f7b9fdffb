/-
  DERIVED. GIVEN WITH THE SEED: THE CARDS: each row of YticfopjbaoigfaaGreatDoorRows.lean that lists a variable, with what it lists TIED to the program's text (the seventh form; the later family's looks); each row that meets fmt, with fmt's text TOLD by the authors' own Lean function (tested against real Go, not proved from fmt's source: count such statements apart). THE CARD IS WHAT COUNTS. Prove the row's statement (the work); the ties are given (YticfopjbaoigfaaGreatDoorTie.lean); close each card by the builder's one call (the guide's Derived/Test/ToyasCard.lean, 'card_holds'). Laid BY PROGRAM, IN A SANDBOX (cutbox-door.mjs). By AI agents, Wed Nov 11 2026. No macro, syntax, notation, axiom, sorry.
-/
import Derived.Test.YticfopjbaoigfaaGreatDoorRows
import GoSem.ClaimSeven
namespace Go.Proofs.YticfopjbaoigfaaGreatDoor
namespace Rows

/-- THE TIED CARD OF 'scorebooklaw43.ModelShifts'. -/
def modelShiftsCard : Claim7 := { stood := { row := modelShiftsRow, standIns := [], harness := (true, "33e29094f485f794f23517ee42f94945caa70cd7d233a88da94f2860671f9332"), looks := true }, kinds := [], alts := [], laidByText := true, laidKinds := [.data, .data, .data, .data, .sentinel, .sentinel, .pinned], laidTests := true, laidLooks := .later }
def ModelShiftsCardSaid : Prop := Claim7.holds Tryz.pinned (.plain (OpenSpec.ofChange modelShiftsSpec)) modelShiftsCard

/-- THE TIED CARD OF 'scorebooklaw43.ModelMonotone'. -/
def modelMonotoneCard : Claim7 := { stood := { row := modelMonotoneRow, standIns := [], harness := (true, "33e29094f485f794f23517ee42f94945caa70cd7d233a88da94f2860671f9332"), looks := true }, kinds := [], alts := [], laidByText := true, laidKinds := [.data, .data, .data, .data, .sentinel, .sentinel, .pinned], laidTests := true, laidLooks := .later }
def ModelMonotoneCardSaid : Prop := Claim7.holds Tryz.pinned (.plain (OpenSpec.ofChange modelMonotoneSpec)) modelMonotoneCard

/-- THE TIED CARD OF 'scorebooklaw43.ModelChecks'. -/
def modelChecksCard : Claim7 := { stood := { row := modelChecksRow, standIns := [], harness := (true, "33e29094f485f794f23517ee42f94945caa70cd7d233a88da94f2860671f9332"), looks := true }, kinds := [], alts := [], laidByText := true, laidKinds := [.data, .data, .data, .data, .sentinel, .sentinel, .pinned], laidTests := true, laidLooks := .later }
def ModelChecksCardSaid : Prop := Claim7.holds Tryz.pinned (.plain (OpenSpec.ofChange modelChecksSpec)) modelChecksCard

/-- THE TIED CARD OF 'scorebooklaw43.ModelBalls'. -/
def modelBallsCard : Claim7 := { stood := { row := modelBallsRow, standIns := [], harness := (true, "33e29094f485f794f23517ee42f94945caa70cd7d233a88da94f2860671f9332"), looks := true }, kinds := [], alts := [], laidByText := true, laidKinds := [.data, .data, .data, .data, .sentinel, .sentinel, .pinned], laidTests := true, laidLooks := .later }
def ModelBallsCardSaid : Prop := Claim7.holds Tryz.pinned (.plain (OpenSpec.ofChange modelBallsSpec)) modelBallsCard

/-- THE TIED CARD OF 'scorebooklaw43.ModelParses'. -/
def modelParsesCard : Claim7 := { stood := { row := modelParsesRow, standIns := [], harness := (true, "33e29094f485f794f23517ee42f94945caa70cd7d233a88da94f2860671f9332"), looks := true }, kinds := [], alts := [], laidByText := true, laidKinds := [.data, .data, .data, .data, .sentinel, .sentinel, .pinned], laidTests := true, laidLooks := .later }
def ModelParsesCardSaid : Prop := Claim7.holds Tryz.pinned (.plain (OpenSpec.ofChange modelParsesSpec)) modelParsesCard

/-- THE TIED CARD OF 'scorebooklaw43.ModelTexts'. -/
def modelTextsCard : Claim7 := { stood := { row := modelTextsRow, standIns := [], harness := (true, "33e29094f485f794f23517ee42f94945caa70cd7d233a88da94f2860671f9332"), looks := true }, kinds := [], alts := [], laidByText := true, laidKinds := [.data, .data, .data, .data, .sentinel, .sentinel, .pinned], laidTests := true, laidLooks := .later }
def ModelTextsCardSaid : Prop := Claim7.holds Tryz.pinned (.plain (OpenSpec.ofChange modelTextsSpec)) modelTextsCard

/-- THE SECOND FORM's CARD OF 'scorebooklaw43.ModelShifts'. -/
def modelShiftsUptoCard : Claim7 := { stood := { row := modelShiftsUptoRow, standIns := [], harness := (true, "33e29094f485f794f23517ee42f94945caa70cd7d233a88da94f2860671f9332"), looks := true }, kinds := [], alts := [], laidByText := true, laidKinds := [.data, .data, .data, .data, .sentinel, .sentinel, .pinned], laidTests := true, laidLooks := .later }
def ModelShiftsUptoCardSaid : Prop := Claim7.holds Tryz.pinned (.plain (OpenSpec.upto modelShiftsSpec)) modelShiftsUptoCard

/-- THE SECOND FORM's CARD OF 'scorebooklaw43.ModelMonotone'. -/
def modelMonotoneUptoCard : Claim7 := { stood := { row := modelMonotoneUptoRow, standIns := [], harness := (true, "33e29094f485f794f23517ee42f94945caa70cd7d233a88da94f2860671f9332"), looks := true }, kinds := [], alts := [], laidByText := true, laidKinds := [.data, .data, .data, .data, .sentinel, .sentinel, .pinned], laidTests := true, laidLooks := .later }
def ModelMonotoneUptoCardSaid : Prop := Claim7.holds Tryz.pinned (.plain (OpenSpec.upto modelMonotoneSpec)) modelMonotoneUptoCard

/-- THE SECOND FORM's CARD OF 'scorebooklaw43.ModelChecks'. -/
def modelChecksUptoCard : Claim7 := { stood := { row := modelChecksUptoRow, standIns := [], harness := (true, "33e29094f485f794f23517ee42f94945caa70cd7d233a88da94f2860671f9332"), looks := true }, kinds := [], alts := [], laidByText := true, laidKinds := [.data, .data, .data, .data, .sentinel, .sentinel, .pinned], laidTests := true, laidLooks := .later }
def ModelChecksUptoCardSaid : Prop := Claim7.holds Tryz.pinned (.plain (OpenSpec.upto modelChecksSpec)) modelChecksUptoCard

/-- THE SECOND FORM's CARD OF 'scorebooklaw43.ModelBalls'. -/
def modelBallsUptoCard : Claim7 := { stood := { row := modelBallsUptoRow, standIns := [], harness := (true, "33e29094f485f794f23517ee42f94945caa70cd7d233a88da94f2860671f9332"), looks := true }, kinds := [], alts := [], laidByText := true, laidKinds := [.data, .data, .data, .data, .sentinel, .sentinel, .pinned], laidTests := true, laidLooks := .later }
def ModelBallsUptoCardSaid : Prop := Claim7.holds Tryz.pinned (.plain (OpenSpec.upto modelBallsSpec)) modelBallsUptoCard

/-- THE SECOND FORM's CARD OF 'scorebooklaw43.ModelParses'. -/
def modelParsesUptoCard : Claim7 := { stood := { row := modelParsesUptoRow, standIns := [], harness := (true, "33e29094f485f794f23517ee42f94945caa70cd7d233a88da94f2860671f9332"), looks := true }, kinds := [], alts := [], laidByText := true, laidKinds := [.data, .data, .data, .data, .sentinel, .sentinel, .pinned], laidTests := true, laidLooks := .later }
def ModelParsesUptoCardSaid : Prop := Claim7.holds Tryz.pinned (.plain (OpenSpec.upto modelParsesSpec)) modelParsesUptoCard

/-- THE SECOND FORM's CARD OF 'scorebooklaw43.ModelTexts'. -/
def modelTextsUptoCard : Claim7 := { stood := { row := modelTextsUptoRow, standIns := [], harness := (true, "33e29094f485f794f23517ee42f94945caa70cd7d233a88da94f2860671f9332"), looks := true }, kinds := [], alts := [], laidByText := true, laidKinds := [.data, .data, .data, .data, .sentinel, .sentinel, .pinned], laidTests := true, laidLooks := .later }
def ModelTextsUptoCardSaid : Prop := Claim7.holds Tryz.pinned (.plain (OpenSpec.upto modelTextsSpec)) modelTextsUptoCard
end Rows
end Go.Proofs.YticfopjbaoigfaaGreatDoor
