/-
  DERIVED. GIVEN WITH THE SEED: THE CARDS: each row of YtoeeodemimndlaaGreatDoorRows.lean that lists a variable, with what it lists TIED to the program's text (the seventh form; the later family's looks); each row that meets fmt, with fmt's text TOLD by the authors' own Lean function (tested against real Go, not proved from fmt's source: count such statements apart). THE CARD IS WHAT COUNTS. Prove the row's statement (the work); the ties are given (YtoeeodemimndlaaGreatDoorTie.lean); close each card by the builder's one call (the guide's Derived/Test/ToyasCard.lean, 'card_holds'). Laid BY PROGRAM, IN A SANDBOX (cutbox-door.mjs). By AI agents, Wed Nov 11 2026. No macro, syntax, notation, axiom, sorry.
-/
import Derived.Test.YtoeeodemimndlaaGreatDoorRows
import GoSem.ClaimSeven
namespace Go.Proofs.YtoeeodemimndlaaGreatDoor
namespace Rows

/-- THE TIED CARD OF 'scorebooklaw42.ChancePowers'. -/
def chancePowersCard : Claim7 := { stood := { row := chancePowersRow, standIns := [], harness := (true, "e3000953b387deeaf1b76e9052a0eeeec25cc02e4b4292558a46d648be8c4834"), looks := true }, kinds := [], alts := [], laidByText := true, laidKinds := [.data, .data, .data, .data, .sentinel, .sentinel, .pinned], laidTests := true, laidLooks := .later }
def ChancePowersCardSaid : Prop := Claim7.holds Tryz.pinned (.plain (OpenSpec.ofChange chancePowersSpec)) chancePowersCard

/-- THE TIED CARD OF 'scorebooklaw42.ChancePercents'. -/
def chancePercentsCard : Claim7 := { stood := { row := chancePercentsRow, standIns := [], harness := (true, "e3000953b387deeaf1b76e9052a0eeeec25cc02e4b4292558a46d648be8c4834"), looks := true }, kinds := [], alts := [], laidByText := true, laidKinds := [.data, .data, .data, .data, .sentinel, .sentinel, .pinned], laidTests := true, laidLooks := .later }
def ChancePercentsCardSaid : Prop := Claim7.holds Tryz.pinned (.plain (OpenSpec.ofChange chancePercentsSpec)) chancePercentsCard

/-- THE TIED CARD OF 'scorebooklaw42.ChanceTexts'. -/
def chanceTextsCard : Claim7 := { stood := { row := chanceTextsRow, standIns := [], harness := (true, "e3000953b387deeaf1b76e9052a0eeeec25cc02e4b4292558a46d648be8c4834"), looks := true }, kinds := [], alts := [], laidByText := true, laidKinds := [.data, .data, .data, .data, .sentinel, .sentinel, .pinned], laidTests := true, laidLooks := .later }
def ChanceTextsCardSaid : Prop := Claim7.holds Tryz.pinned (.plain (OpenSpec.ofChange chanceTextsSpec)) chanceTextsCard

/-- THE TIED CARD OF 'scorebooklaw42.ChanceParses'. -/
def chanceParsesCard : Claim7 := { stood := { row := chanceParsesRow, standIns := [], harness := (true, "e3000953b387deeaf1b76e9052a0eeeec25cc02e4b4292558a46d648be8c4834"), looks := true }, kinds := [], alts := [], laidByText := true, laidKinds := [.data, .data, .data, .data, .sentinel, .sentinel, .pinned], laidTests := true, laidLooks := .later }
def ChanceParsesCardSaid : Prop := Claim7.holds Tryz.pinned (.plain (OpenSpec.ofChange chanceParsesSpec)) chanceParsesCard

/-- THE TIED CARD OF 'scorebooklaw42.ChanceSums'. -/
def chanceSumsCard : Claim7 := { stood := { row := chanceSumsRow, standIns := [], harness := (true, "e3000953b387deeaf1b76e9052a0eeeec25cc02e4b4292558a46d648be8c4834"), looks := true }, kinds := [], alts := [], laidByText := true, laidKinds := [.data, .data, .data, .data, .sentinel, .sentinel, .pinned], laidTests := true, laidLooks := .later }
def ChanceSumsCardSaid : Prop := Claim7.holds Tryz.pinned (.plain (OpenSpec.ofChange chanceSumsSpec)) chanceSumsCard

/-- THE TIED CARD OF 'scorebooklaw42.ChanceSpreads'. -/
def chanceSpreadsCard : Claim7 := { stood := { row := chanceSpreadsRow, standIns := [], harness := (true, "e3000953b387deeaf1b76e9052a0eeeec25cc02e4b4292558a46d648be8c4834"), looks := true }, kinds := [], alts := [], laidByText := true, laidKinds := [.data, .data, .data, .data, .sentinel, .sentinel, .pinned], laidTests := true, laidLooks := .later }
def ChanceSpreadsCardSaid : Prop := Claim7.holds Tryz.pinned (.plain (OpenSpec.ofChange chanceSpreadsSpec)) chanceSpreadsCard

/-- THE TIED CARD OF 'scorebooklaw42.ChanceDominates'. -/
def chanceDominatesCard : Claim7 := { stood := { row := chanceDominatesRow, standIns := [], harness := (true, "e3000953b387deeaf1b76e9052a0eeeec25cc02e4b4292558a46d648be8c4834"), looks := true }, kinds := [], alts := [], laidByText := true, laidKinds := [.data, .data, .data, .data, .sentinel, .sentinel, .pinned], laidTests := true, laidLooks := .later }
def ChanceDominatesCardSaid : Prop := Claim7.holds Tryz.pinned (.plain (OpenSpec.ofChange chanceDominatesSpec)) chanceDominatesCard

/-- THE TIED CARD OF 'scorebooklaw42.ChanceChecks'. -/
def chanceChecksCard : Claim7 := { stood := { row := chanceChecksRow, standIns := [], harness := (true, "e3000953b387deeaf1b76e9052a0eeeec25cc02e4b4292558a46d648be8c4834"), looks := true }, kinds := [], alts := [], laidByText := true, laidKinds := [.data, .data, .data, .data, .sentinel, .sentinel, .pinned], laidTests := true, laidLooks := .later }
def ChanceChecksCardSaid : Prop := Claim7.holds Tryz.pinned (.plain (OpenSpec.ofChange chanceChecksSpec)) chanceChecksCard

/-- THE SECOND FORM's CARD OF 'scorebooklaw42.ChancePowers'. -/
def chancePowersUptoCard : Claim7 := { stood := { row := chancePowersUptoRow, standIns := [], harness := (true, "e3000953b387deeaf1b76e9052a0eeeec25cc02e4b4292558a46d648be8c4834"), looks := true }, kinds := [], alts := [], laidByText := true, laidKinds := [.data, .data, .data, .data, .sentinel, .sentinel, .pinned], laidTests := true, laidLooks := .later }
def ChancePowersUptoCardSaid : Prop := Claim7.holds Tryz.pinned (.plain (OpenSpec.upto chancePowersSpec)) chancePowersUptoCard

/-- THE SECOND FORM's CARD OF 'scorebooklaw42.ChancePercents'. -/
def chancePercentsUptoCard : Claim7 := { stood := { row := chancePercentsUptoRow, standIns := [], harness := (true, "e3000953b387deeaf1b76e9052a0eeeec25cc02e4b4292558a46d648be8c4834"), looks := true }, kinds := [], alts := [], laidByText := true, laidKinds := [.data, .data, .data, .data, .sentinel, .sentinel, .pinned], laidTests := true, laidLooks := .later }
def ChancePercentsUptoCardSaid : Prop := Claim7.holds Tryz.pinned (.plain (OpenSpec.upto chancePercentsSpec)) chancePercentsUptoCard

/-- THE SECOND FORM's CARD OF 'scorebooklaw42.ChanceTexts'. -/
def chanceTextsUptoCard : Claim7 := { stood := { row := chanceTextsUptoRow, standIns := [], harness := (true, "e3000953b387deeaf1b76e9052a0eeeec25cc02e4b4292558a46d648be8c4834"), looks := true }, kinds := [], alts := [], laidByText := true, laidKinds := [.data, .data, .data, .data, .sentinel, .sentinel, .pinned], laidTests := true, laidLooks := .later }
def ChanceTextsUptoCardSaid : Prop := Claim7.holds Tryz.pinned (.plain (OpenSpec.upto chanceTextsSpec)) chanceTextsUptoCard

/-- THE SECOND FORM's CARD OF 'scorebooklaw42.ChanceParses'. -/
def chanceParsesUptoCard : Claim7 := { stood := { row := chanceParsesUptoRow, standIns := [], harness := (true, "e3000953b387deeaf1b76e9052a0eeeec25cc02e4b4292558a46d648be8c4834"), looks := true }, kinds := [], alts := [], laidByText := true, laidKinds := [.data, .data, .data, .data, .sentinel, .sentinel, .pinned], laidTests := true, laidLooks := .later }
def ChanceParsesUptoCardSaid : Prop := Claim7.holds Tryz.pinned (.plain (OpenSpec.upto chanceParsesSpec)) chanceParsesUptoCard

/-- THE SECOND FORM's CARD OF 'scorebooklaw42.ChanceSums'. -/
def chanceSumsUptoCard : Claim7 := { stood := { row := chanceSumsUptoRow, standIns := [], harness := (true, "e3000953b387deeaf1b76e9052a0eeeec25cc02e4b4292558a46d648be8c4834"), looks := true }, kinds := [], alts := [], laidByText := true, laidKinds := [.data, .data, .data, .data, .sentinel, .sentinel, .pinned], laidTests := true, laidLooks := .later }
def ChanceSumsUptoCardSaid : Prop := Claim7.holds Tryz.pinned (.plain (OpenSpec.upto chanceSumsSpec)) chanceSumsUptoCard

/-- THE SECOND FORM's CARD OF 'scorebooklaw42.ChanceSpreads'. -/
def chanceSpreadsUptoCard : Claim7 := { stood := { row := chanceSpreadsUptoRow, standIns := [], harness := (true, "e3000953b387deeaf1b76e9052a0eeeec25cc02e4b4292558a46d648be8c4834"), looks := true }, kinds := [], alts := [], laidByText := true, laidKinds := [.data, .data, .data, .data, .sentinel, .sentinel, .pinned], laidTests := true, laidLooks := .later }
def ChanceSpreadsUptoCardSaid : Prop := Claim7.holds Tryz.pinned (.plain (OpenSpec.upto chanceSpreadsSpec)) chanceSpreadsUptoCard

/-- THE SECOND FORM's CARD OF 'scorebooklaw42.ChanceDominates'. -/
def chanceDominatesUptoCard : Claim7 := { stood := { row := chanceDominatesUptoRow, standIns := [], harness := (true, "e3000953b387deeaf1b76e9052a0eeeec25cc02e4b4292558a46d648be8c4834"), looks := true }, kinds := [], alts := [], laidByText := true, laidKinds := [.data, .data, .data, .data, .sentinel, .sentinel, .pinned], laidTests := true, laidLooks := .later }
def ChanceDominatesUptoCardSaid : Prop := Claim7.holds Tryz.pinned (.plain (OpenSpec.upto chanceDominatesSpec)) chanceDominatesUptoCard

/-- THE SECOND FORM's CARD OF 'scorebooklaw42.ChanceChecks'. -/
def chanceChecksUptoCard : Claim7 := { stood := { row := chanceChecksUptoRow, standIns := [], harness := (true, "e3000953b387deeaf1b76e9052a0eeeec25cc02e4b4292558a46d648be8c4834"), looks := true }, kinds := [], alts := [], laidByText := true, laidKinds := [.data, .data, .data, .data, .sentinel, .sentinel, .pinned], laidTests := true, laidLooks := .later }
def ChanceChecksUptoCardSaid : Prop := Claim7.holds Tryz.pinned (.plain (OpenSpec.upto chanceChecksSpec)) chanceChecksUptoCard
end Rows
end Go.Proofs.YtoeeodemimndlaaGreatDoor
