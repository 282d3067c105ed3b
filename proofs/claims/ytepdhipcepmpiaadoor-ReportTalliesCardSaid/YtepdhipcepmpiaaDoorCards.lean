/-
  DERIVED. GIVEN WITH THE SEED: THE CARDS: each row of YtepdhipcepmpiaaDoorRows.lean that lists a variable, with what it lists TIED to the program's text (the seventh form; the later family's looks); each row that meets fmt, with fmt's text TOLD by the authors' own Lean function (tested against real Go, not proved from fmt's source: count such statements apart). THE CARD IS WHAT COUNTS. Prove the row's statement (the work); the ties are given (YtepdhipcepmpiaaDoorTie.lean); close each card by the builder's one call (the guide's Derived/Test/ToyasCard.lean, 'card_holds'). Laid BY PROGRAM, IN A SANDBOX (cutbox-door.mjs). By AI agents, Wed Nov 11 2026. No macro, syntax, notation, axiom, sorry.
-/
import Derived.Test.YtepdhipcepmpiaaDoorRows
import GoSem.ClaimSeven
namespace Go.Proofs.YtepdhipcepmpiaaDoor
namespace Rows

/-- THE TIED CARD OF 'mempoollaw31.ReportTallies'. -/
def reportTalliesCard : Claim7 := { stood := { row := reportTalliesRow, standIns := [], harness := (true, "8bc3dea3c6a89889699aeb9ef14adcfd6d30b54b9fb91251f85d081089b47a63"), looks := false }, kinds := [], alts := [], laidByText := true, laidKinds := [.data, .data, .data], laidTests := true, laidLooks := .later }
def ReportTalliesCardSaid : Prop := Claim7.holds Tryd.pinned (.plain (OpenSpec.ofChange reportTalliesSpec)) reportTalliesCard

/-- THE TIED CARD OF 'mempoollaw31.ReportBalances'. -/
def reportBalancesCard : Claim7 := { stood := { row := reportBalancesRow, standIns := [], harness := (true, "8bc3dea3c6a89889699aeb9ef14adcfd6d30b54b9fb91251f85d081089b47a63"), looks := false }, kinds := [], alts := [], laidByText := true, laidKinds := [.data, .data, .data], laidTests := true, laidLooks := .later }
def ReportBalancesCardSaid : Prop := Claim7.holds Tryd.pinned (.plain (OpenSpec.ofChange reportBalancesSpec)) reportBalancesCard

/-- THE TIED CARD OF 'mempoollaw31.ReportFormats'. -/
def reportFormatsCard : Claim7 := { stood := { row := reportFormatsRow, standIns := [], harness := (true, "8bc3dea3c6a89889699aeb9ef14adcfd6d30b54b9fb91251f85d081089b47a63"), looks := false }, kinds := [], alts := [], laidByText := true, laidKinds := [.data, .data, .data], laidTests := true, laidLooks := .later }
def ReportFormatsCardSaid : Prop := Claim7.holds Tryd.pinned (.plain (OpenSpec.ofChange reportFormatsSpec)) reportFormatsCard

/-- THE SECOND FORM's CARD OF 'mempoollaw31.ReportTallies'. -/
def reportTalliesUptoCard : Claim7 := { stood := { row := reportTalliesUptoRow, standIns := [], harness := (true, "8bc3dea3c6a89889699aeb9ef14adcfd6d30b54b9fb91251f85d081089b47a63"), looks := false }, kinds := [], alts := [], laidByText := true, laidKinds := [.data, .data, .data], laidTests := true, laidLooks := .later }
def ReportTalliesUptoCardSaid : Prop := Claim7.holds Tryd.pinned (.plain (OpenSpec.upto reportTalliesSpec)) reportTalliesUptoCard

/-- THE SECOND FORM's CARD OF 'mempoollaw31.ReportBalances'. -/
def reportBalancesUptoCard : Claim7 := { stood := { row := reportBalancesUptoRow, standIns := [], harness := (true, "8bc3dea3c6a89889699aeb9ef14adcfd6d30b54b9fb91251f85d081089b47a63"), looks := false }, kinds := [], alts := [], laidByText := true, laidKinds := [.data, .data, .data], laidTests := true, laidLooks := .later }
def ReportBalancesUptoCardSaid : Prop := Claim7.holds Tryd.pinned (.plain (OpenSpec.upto reportBalancesSpec)) reportBalancesUptoCard

/-- THE SECOND FORM's CARD OF 'mempoollaw31.ReportFormats'. -/
def reportFormatsUptoCard : Claim7 := { stood := { row := reportFormatsUptoRow, standIns := [], harness := (true, "8bc3dea3c6a89889699aeb9ef14adcfd6d30b54b9fb91251f85d081089b47a63"), looks := false }, kinds := [], alts := [], laidByText := true, laidKinds := [.data, .data, .data], laidTests := true, laidLooks := .later }
def ReportFormatsUptoCardSaid : Prop := Claim7.holds Tryd.pinned (.plain (OpenSpec.upto reportFormatsSpec)) reportFormatsUptoCard
end Rows
end Go.Proofs.YtepdhipcepmpiaaDoor
