/-
  DERIVED. GIVEN WITH THE SEED: THE CARDS: each row of YtbiaaogbohfimaaGreatDoorRows.lean that lists a variable, with what it lists TIED to the program's text (the seventh form; the later family's looks); each row that meets fmt, with fmt's text TOLD by the authors' own Lean function (tested against real Go, not proved from fmt's source: count such statements apart). THE CARD IS WHAT COUNTS. Prove the row's statement (the work); the ties are given (YtbiaaogbohfimaaGreatDoorTie.lean); close each card by the builder's one call (the guide's Derived/Test/ToyasCard.lean, 'card_holds'). Laid BY PROGRAM, IN A SANDBOX (cutbox-door.mjs). By AI agents, Wed Nov 11 2026. No macro, syntax, notation, axiom, sorry.
-/
import Derived.Test.YtbiaaogbohfimaaGreatDoorRows
import GoSem.ClaimSeven
namespace Go.Proofs.YtbiaaogbohfimaaGreatDoor
namespace Rows

/-- THE TIED CARD OF 'mempoollaw33.ConsoleQuotes'. -/
def consoleQuotesCard : Claim7 := { stood := { row := consoleQuotesRow, standIns := [], harness := (true, "ed0524b950a80525d03249205f51d994513d670b2fb923a0e32fbfe6f7d31f35"), looks := true }, kinds := [], alts := [], laidByText := true, laidKinds := [.data, .data, .data, .data, .sentinel, .sentinel, .pinned], laidTests := true, laidLooks := .later }
def ConsoleQuotesCardSaid : Prop := Claim7.holds Tryz.pinned (.plain (OpenSpec.ofChange consoleQuotesSpec)) consoleQuotesCard

/-- THE TIED CARD OF 'mempoollaw33.ConsoleUnquotes'. -/
def consoleUnquotesCard : Claim7 := { stood := { row := consoleUnquotesRow, standIns := [], harness := (true, "ed0524b950a80525d03249205f51d994513d670b2fb923a0e32fbfe6f7d31f35"), looks := true }, kinds := [], alts := [], laidByText := true, laidKinds := [.data, .data, .data, .data, .sentinel, .sentinel, .pinned], laidTests := true, laidLooks := .later }
def ConsoleUnquotesCardSaid : Prop := Claim7.holds Tryz.pinned (.plain (OpenSpec.ofChange consoleUnquotesSpec)) consoleUnquotesCard

/-- THE TIED CARD OF 'mempoollaw33.ConsoleErrors'. -/
def consoleErrorsCard : Claim7 := { stood := { row := consoleErrorsRow, standIns := [], harness := (true, "ed0524b950a80525d03249205f51d994513d670b2fb923a0e32fbfe6f7d31f35"), looks := true }, kinds := [], alts := [], laidByText := true, laidKinds := [.data, .data, .data, .data, .sentinel, .sentinel, .pinned], laidTests := true, laidLooks := .later }
def ConsoleErrorsCardSaid : Prop := Claim7.holds Tryz.pinned (.plain (OpenSpec.ofChange consoleErrorsSpec)) consoleErrorsCard

/-- THE SECOND FORM's CARD OF 'mempoollaw33.ConsoleQuotes'. -/
def consoleQuotesUptoCard : Claim7 := { stood := { row := consoleQuotesUptoRow, standIns := [], harness := (true, "ed0524b950a80525d03249205f51d994513d670b2fb923a0e32fbfe6f7d31f35"), looks := true }, kinds := [], alts := [], laidByText := true, laidKinds := [.data, .data, .data, .data, .sentinel, .sentinel, .pinned], laidTests := true, laidLooks := .later }
def ConsoleQuotesUptoCardSaid : Prop := Claim7.holds Tryz.pinned (.plain (OpenSpec.upto consoleQuotesSpec)) consoleQuotesUptoCard

/-- THE SECOND FORM's CARD OF 'mempoollaw33.ConsoleUnquotes'. -/
def consoleUnquotesUptoCard : Claim7 := { stood := { row := consoleUnquotesUptoRow, standIns := [], harness := (true, "ed0524b950a80525d03249205f51d994513d670b2fb923a0e32fbfe6f7d31f35"), looks := true }, kinds := [], alts := [], laidByText := true, laidKinds := [.data, .data, .data, .data, .sentinel, .sentinel, .pinned], laidTests := true, laidLooks := .later }
def ConsoleUnquotesUptoCardSaid : Prop := Claim7.holds Tryz.pinned (.plain (OpenSpec.upto consoleUnquotesSpec)) consoleUnquotesUptoCard

/-- THE SECOND FORM's CARD OF 'mempoollaw33.ConsoleErrors'. -/
def consoleErrorsUptoCard : Claim7 := { stood := { row := consoleErrorsUptoRow, standIns := [], harness := (true, "ed0524b950a80525d03249205f51d994513d670b2fb923a0e32fbfe6f7d31f35"), looks := true }, kinds := [], alts := [], laidByText := true, laidKinds := [.data, .data, .data, .data, .sentinel, .sentinel, .pinned], laidTests := true, laidLooks := .later }
def ConsoleErrorsUptoCardSaid : Prop := Claim7.holds Tryz.pinned (.plain (OpenSpec.upto consoleErrorsSpec)) consoleErrorsUptoCard
end Rows
end Go.Proofs.YtbiaaogbohfimaaGreatDoor
