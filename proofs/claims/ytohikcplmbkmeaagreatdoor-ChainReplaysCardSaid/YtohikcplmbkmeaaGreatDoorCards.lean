/-
  DERIVED. GIVEN WITH THE SEED: THE CARDS: each row of YtohikcplmbkmeaaGreatDoorRows.lean that lists a variable, with what it lists TIED to the program's text (the seventh form; the later family's looks); each row that meets fmt, with fmt's text TOLD by the authors' own Lean function (tested against real Go, not proved from fmt's source: count such statements apart). THE CARD IS WHAT COUNTS. Prove the row's statement (the work); the ties are given (YtohikcplmbkmeaaGreatDoorTie.lean); close each card by the builder's one call (the guide's Derived/Test/ToyasCard.lean, 'card_holds'). Laid BY PROGRAM, IN A SANDBOX (cutbox-door.mjs). By AI agents, Wed Nov 11 2026. No macro, syntax, notation, axiom, sorry.
-/
import Derived.Test.YtohikcplmbkmeaaGreatDoorRows
import GoSem.ClaimSeven
namespace Go.Proofs.YtohikcplmbkmeaaGreatDoor
namespace Rows

/-- THE TIED CARD OF 'mempoollaw15.AppBegins'. -/
def appBeginsCard : Claim7 := { stood := { row := appBeginsRow, standIns := [], harness := (true, "dbc71ded501fe392736f2e8565ada25f9f28fbe2254067282e4488edca80590b"), looks := true }, kinds := [], alts := [], laidByText := true, laidKinds := [.data, .pinned], laidTests := true, laidLooks := .later }
def AppBeginsCardSaid : Prop := Claim7.holds Tryz.pinned (.plain (OpenSpec.ofChange appBeginsSpec)) appBeginsCard

/-- THE TIED CARD OF 'mempoollaw15.AppChecks'. -/
def appChecksCard : Claim7 := { stood := { row := appChecksRow, standIns := [], harness := (true, "dbc71ded501fe392736f2e8565ada25f9f28fbe2254067282e4488edca80590b"), looks := true }, kinds := [], alts := [], laidByText := true, laidKinds := [.data, .pinned], laidTests := true, laidLooks := .later }
def AppChecksCardSaid : Prop := Claim7.holds Tryz.pinned (.plain (OpenSpec.ofChange appChecksSpec)) appChecksCard

/-- THE TIED CARD OF 'mempoollaw15.AppBlocks'. -/
def appBlocksCard : Claim7 := { stood := { row := appBlocksRow, standIns := [], harness := (true, "dbc71ded501fe392736f2e8565ada25f9f28fbe2254067282e4488edca80590b"), looks := true }, kinds := [], alts := [], laidByText := true, laidKinds := [.data, .pinned], laidTests := true, laidLooks := .later }
def AppBlocksCardSaid : Prop := Claim7.holds Tryz.pinned (.plain (OpenSpec.ofChange appBlocksSpec)) appBlocksCard

/-- THE TIED CARD OF 'mempoollaw15.AppAccepts'. -/
def appAcceptsCard : Claim7 := { stood := { row := appAcceptsRow, standIns := [], harness := (true, "dbc71ded501fe392736f2e8565ada25f9f28fbe2254067282e4488edca80590b"), looks := true }, kinds := [], alts := [], laidByText := true, laidKinds := [.data, .pinned], laidTests := true, laidLooks := .later }
def AppAcceptsCardSaid : Prop := Claim7.holds Tryz.pinned (.plain (OpenSpec.ofChange appAcceptsSpec)) appAcceptsCard

/-- THE TIED CARD OF 'mempoollaw15.AppLimits'. -/
def appLimitsCard : Claim7 := { stood := { row := appLimitsRow, standIns := [], harness := (true, "dbc71ded501fe392736f2e8565ada25f9f28fbe2254067282e4488edca80590b"), looks := true }, kinds := [], alts := [], laidByText := true, laidKinds := [.data, .pinned], laidTests := true, laidLooks := .later }
def AppLimitsCardSaid : Prop := Claim7.holds Tryz.pinned (.plain (OpenSpec.ofChange appLimitsSpec)) appLimitsCard

/-- THE TIED CARD OF 'mempoollaw27.ChainReplays'. -/
def chainReplaysCard : Claim7 := { stood := { row := chainReplaysRow, standIns := [], harness := (true, "dbc71ded501fe392736f2e8565ada25f9f28fbe2254067282e4488edca80590b"), looks := true }, kinds := [], alts := [], laidByText := true, laidKinds := [.data, .pinned], laidTests := true, laidLooks := .later }
def ChainReplaysCardSaid : Prop := Claim7.holds Tryz.pinned (.plain (OpenSpec.ofChange chainReplaysSpec)) chainReplaysCard

/-- THE TIED CARD OF 'mempoollaw27.ChainUnique'. -/
def chainUniqueCard : Claim7 := { stood := { row := chainUniqueRow, standIns := [], harness := (true, "dbc71ded501fe392736f2e8565ada25f9f28fbe2254067282e4488edca80590b"), looks := true }, kinds := [], alts := [], laidByText := true, laidKinds := [.data, .pinned], laidTests := true, laidLooks := .later }
def ChainUniqueCardSaid : Prop := Claim7.holds Tryz.pinned (.plain (OpenSpec.ofChange chainUniqueSpec)) chainUniqueCard

/-- THE SECOND FORM's CARD OF 'mempoollaw15.AppBegins'. -/
def appBeginsUptoCard : Claim7 := { stood := { row := appBeginsUptoRow, standIns := [], harness := (true, "dbc71ded501fe392736f2e8565ada25f9f28fbe2254067282e4488edca80590b"), looks := true }, kinds := [], alts := [], laidByText := true, laidKinds := [.data, .pinned], laidTests := true, laidLooks := .later }
def AppBeginsUptoCardSaid : Prop := Claim7.holds Tryz.pinned (.plain (OpenSpec.upto appBeginsSpec)) appBeginsUptoCard

/-- THE SECOND FORM's CARD OF 'mempoollaw15.AppChecks'. -/
def appChecksUptoCard : Claim7 := { stood := { row := appChecksUptoRow, standIns := [], harness := (true, "dbc71ded501fe392736f2e8565ada25f9f28fbe2254067282e4488edca80590b"), looks := true }, kinds := [], alts := [], laidByText := true, laidKinds := [.data, .pinned], laidTests := true, laidLooks := .later }
def AppChecksUptoCardSaid : Prop := Claim7.holds Tryz.pinned (.plain (OpenSpec.upto appChecksSpec)) appChecksUptoCard

/-- THE SECOND FORM's CARD OF 'mempoollaw15.AppBlocks'. -/
def appBlocksUptoCard : Claim7 := { stood := { row := appBlocksUptoRow, standIns := [], harness := (true, "dbc71ded501fe392736f2e8565ada25f9f28fbe2254067282e4488edca80590b"), looks := true }, kinds := [], alts := [], laidByText := true, laidKinds := [.data, .pinned], laidTests := true, laidLooks := .later }
def AppBlocksUptoCardSaid : Prop := Claim7.holds Tryz.pinned (.plain (OpenSpec.upto appBlocksSpec)) appBlocksUptoCard

/-- THE SECOND FORM's CARD OF 'mempoollaw15.AppAccepts'. -/
def appAcceptsUptoCard : Claim7 := { stood := { row := appAcceptsUptoRow, standIns := [], harness := (true, "dbc71ded501fe392736f2e8565ada25f9f28fbe2254067282e4488edca80590b"), looks := true }, kinds := [], alts := [], laidByText := true, laidKinds := [.data, .pinned], laidTests := true, laidLooks := .later }
def AppAcceptsUptoCardSaid : Prop := Claim7.holds Tryz.pinned (.plain (OpenSpec.upto appAcceptsSpec)) appAcceptsUptoCard

/-- THE SECOND FORM's CARD OF 'mempoollaw15.AppLimits'. -/
def appLimitsUptoCard : Claim7 := { stood := { row := appLimitsUptoRow, standIns := [], harness := (true, "dbc71ded501fe392736f2e8565ada25f9f28fbe2254067282e4488edca80590b"), looks := true }, kinds := [], alts := [], laidByText := true, laidKinds := [.data, .pinned], laidTests := true, laidLooks := .later }
def AppLimitsUptoCardSaid : Prop := Claim7.holds Tryz.pinned (.plain (OpenSpec.upto appLimitsSpec)) appLimitsUptoCard

/-- THE SECOND FORM's CARD OF 'mempoollaw27.ChainReplays'. -/
def chainReplaysUptoCard : Claim7 := { stood := { row := chainReplaysUptoRow, standIns := [], harness := (true, "dbc71ded501fe392736f2e8565ada25f9f28fbe2254067282e4488edca80590b"), looks := true }, kinds := [], alts := [], laidByText := true, laidKinds := [.data, .pinned], laidTests := true, laidLooks := .later }
def ChainReplaysUptoCardSaid : Prop := Claim7.holds Tryz.pinned (.plain (OpenSpec.upto chainReplaysSpec)) chainReplaysUptoCard

/-- THE SECOND FORM's CARD OF 'mempoollaw27.ChainUnique'. -/
def chainUniqueUptoCard : Claim7 := { stood := { row := chainUniqueUptoRow, standIns := [], harness := (true, "dbc71ded501fe392736f2e8565ada25f9f28fbe2254067282e4488edca80590b"), looks := true }, kinds := [], alts := [], laidByText := true, laidKinds := [.data, .pinned], laidTests := true, laidLooks := .later }
def ChainUniqueUptoCardSaid : Prop := Claim7.holds Tryz.pinned (.plain (OpenSpec.upto chainUniqueSpec)) chainUniqueUptoCard
end Rows
end Go.Proofs.YtohikcplmbkmeaaGreatDoor
