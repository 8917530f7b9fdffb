/-
  DERIVED. GIVEN WITH THE SEED: THE CARDS: each row of YtglkejlimeakbaaGreatDoorRows.lean that lists a variable, with what it lists TIED to the program's text (the seventh form; the later family's looks); each row that meets fmt, with fmt's text TOLD by the authors' own Lean function (tested against real Go, not proved from fmt's source: count such statements apart). THE CARD IS WHAT COUNTS. Prove the row's statement (the work); the ties are given (YtglkejlimeakbaaGreatDoorTie.lean); close each card by the builder's one call (the guide's Derived/Test/ToyasCard.lean, 'card_holds'). Laid BY PROGRAM, IN A SANDBOX (cutbox-door.mjs). By AI agents, Wed Nov 11 2026. No macro, syntax, notation, axiom, sorry.
-/
import Derived.Test.YtglkejlimeakbaaGreatDoorRows
import GoSem.ClaimSeven
namespace Go.Proofs.YtglkejlimeakbaaGreatDoor
namespace Rows

/-- THE TIED CARD OF 'scorebooklaw05.RulesParses'. -/
def rulesParsesCard : Claim7 := { stood := { row := rulesParsesRow, standIns := [], harness := (true, "75af4f179f00b2b50f8624b6ffe032d501f1f4587ae0e30f4b325de6fcf35757"), looks := true }, kinds := [], alts := [], laidByText := true, laidKinds := [.data, .data, .data, .data, .sentinel, .sentinel, .pinned], laidTests := true, laidLooks := .later }
def RulesParsesCardSaid : Prop := Claim7.holds Tryz.pinned (.plain (OpenSpec.ofChange rulesParsesSpec)) rulesParsesCard

/-- THE TIED CARD OF 'scorebooklaw43.ModelParses'. -/
def modelParsesCard : Claim7 := { stood := { row := modelParsesRow, standIns := [], harness := (true, "75af4f179f00b2b50f8624b6ffe032d501f1f4587ae0e30f4b325de6fcf35757"), looks := true }, kinds := [], alts := [], laidByText := true, laidKinds := [.data, .data, .data, .data, .sentinel, .sentinel, .pinned], laidTests := true, laidLooks := .later }
def ModelParsesCardSaid : Prop := Claim7.holds Tryz.pinned (.plain (OpenSpec.ofChange modelParsesSpec)) modelParsesCard

/-- THE TIED CARD OF 'scorebooklaw43.ModelTexts'. -/
def modelTextsCard : Claim7 := { stood := { row := modelTextsRow, standIns := [], harness := (true, "75af4f179f00b2b50f8624b6ffe032d501f1f4587ae0e30f4b325de6fcf35757"), looks := true }, kinds := [], alts := [], laidByText := true, laidKinds := [.data, .data, .data, .data, .sentinel, .sentinel, .pinned], laidTests := true, laidLooks := .later }
def ModelTextsCardSaid : Prop := Claim7.holds Tryz.pinned (.plain (OpenSpec.ofChange modelTextsSpec)) modelTextsCard

/-- THE SECOND FORM's CARD OF 'scorebooklaw05.RulesParses'. -/
def rulesParsesUptoCard : Claim7 := { stood := { row := rulesParsesUptoRow, standIns := [], harness := (true, "75af4f179f00b2b50f8624b6ffe032d501f1f4587ae0e30f4b325de6fcf35757"), looks := true }, kinds := [], alts := [], laidByText := true, laidKinds := [.data, .data, .data, .data, .sentinel, .sentinel, .pinned], laidTests := true, laidLooks := .later }
def RulesParsesUptoCardSaid : Prop := Claim7.holds Tryz.pinned (.plain (OpenSpec.upto rulesParsesSpec)) rulesParsesUptoCard

/-- THE SECOND FORM's CARD OF 'scorebooklaw43.ModelParses'. -/
def modelParsesUptoCard : Claim7 := { stood := { row := modelParsesUptoRow, standIns := [], harness := (true, "75af4f179f00b2b50f8624b6ffe032d501f1f4587ae0e30f4b325de6fcf35757"), looks := true }, kinds := [], alts := [], laidByText := true, laidKinds := [.data, .data, .data, .data, .sentinel, .sentinel, .pinned], laidTests := true, laidLooks := .later }
def ModelParsesUptoCardSaid : Prop := Claim7.holds Tryz.pinned (.plain (OpenSpec.upto modelParsesSpec)) modelParsesUptoCard

/-- THE SECOND FORM's CARD OF 'scorebooklaw43.ModelTexts'. -/
def modelTextsUptoCard : Claim7 := { stood := { row := modelTextsUptoRow, standIns := [], harness := (true, "75af4f179f00b2b50f8624b6ffe032d501f1f4587ae0e30f4b325de6fcf35757"), looks := true }, kinds := [], alts := [], laidByText := true, laidKinds := [.data, .data, .data, .data, .sentinel, .sentinel, .pinned], laidTests := true, laidLooks := .later }
def ModelTextsUptoCardSaid : Prop := Claim7.holds Tryz.pinned (.plain (OpenSpec.upto modelTextsSpec)) modelTextsUptoCard
end Rows
end Go.Proofs.YtglkejlimeakbaaGreatDoor
