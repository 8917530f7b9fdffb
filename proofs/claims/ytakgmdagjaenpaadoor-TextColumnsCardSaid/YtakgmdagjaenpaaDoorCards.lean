/-
  DERIVED. GIVEN WITH THE SEED: THE CARDS: each row of YtakgmdagjaenpaaDoorRows.lean that lists a variable, with what it lists TIED to the program's text (the seventh form; the later family's looks); each row that meets fmt, with fmt's text TOLD by the authors' own Lean function (tested against real Go, not proved from fmt's source: count such statements apart). THE CARD IS WHAT COUNTS. Prove the row's statement (the work); the ties are given (YtakgmdagjaenpaaDoorTie.lean); close each card by the builder's one call (the guide's Derived/Test/ToyasCard.lean, 'card_holds'). Laid BY PROGRAM, IN A SANDBOX (cutbox-door.mjs). By AI agents, Wed Nov 11 2026. No macro, syntax, notation, axiom, sorry.
-/
import Derived.Test.YtakgmdagjaenpaaDoorRows
import GoSem.ClaimSeven
namespace Go.Proofs.YtakgmdagjaenpaaDoor
namespace Rows

/-- THE TIED CARD OF 'scorebooklaw03.TextColumns'. -/
def textColumnsCard : Claim7 := { stood := { row := textColumnsRow, standIns := [], harness := (true, "432e1f148048df8bc41a74a836bb7fd2688796a3eb0a70c66828e487552bac17"), looks := true }, kinds := [], alts := [], laidByText := true, laidKinds := [.data, .data, .data, .data, .sentinel, .sentinel, .pinned], laidTests := true, laidLooks := .later }
def TextColumnsCardSaid : Prop := Claim7.holds Tryd.pinned (.plain (OpenSpec.ofChange textColumnsSpec)) textColumnsCard

/-- THE TIED CARD OF 'scorebooklaw03.TextQuotes'. -/
def textQuotesCard : Claim7 := { stood := { row := textQuotesRow, standIns := [], harness := (true, "432e1f148048df8bc41a74a836bb7fd2688796a3eb0a70c66828e487552bac17"), looks := true }, kinds := [], alts := [], laidByText := true, laidKinds := [.data, .data, .data, .data, .sentinel, .sentinel, .pinned], laidTests := true, laidLooks := .later }
def TextQuotesCardSaid : Prop := Claim7.holds Tryd.pinned (.plain (OpenSpec.ofChange textQuotesSpec)) textQuotesCard

/-- THE SECOND FORM's CARD OF 'scorebooklaw03.TextColumns'. -/
def textColumnsUptoCard : Claim7 := { stood := { row := textColumnsUptoRow, standIns := [], harness := (true, "432e1f148048df8bc41a74a836bb7fd2688796a3eb0a70c66828e487552bac17"), looks := true }, kinds := [], alts := [], laidByText := true, laidKinds := [.data, .data, .data, .data, .sentinel, .sentinel, .pinned], laidTests := true, laidLooks := .later }
def TextColumnsUptoCardSaid : Prop := Claim7.holds Tryd.pinned (.plain (OpenSpec.upto textColumnsSpec)) textColumnsUptoCard

/-- THE SECOND FORM's CARD OF 'scorebooklaw03.TextQuotes'. -/
def textQuotesUptoCard : Claim7 := { stood := { row := textQuotesUptoRow, standIns := [], harness := (true, "432e1f148048df8bc41a74a836bb7fd2688796a3eb0a70c66828e487552bac17"), looks := true }, kinds := [], alts := [], laidByText := true, laidKinds := [.data, .data, .data, .data, .sentinel, .sentinel, .pinned], laidTests := true, laidLooks := .later }
def TextQuotesUptoCardSaid : Prop := Claim7.holds Tryd.pinned (.plain (OpenSpec.upto textQuotesSpec)) textQuotesUptoCard
end Rows
end Go.Proofs.YtakgmdagjaenpaaDoor
