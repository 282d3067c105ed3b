/-
  DERIVED. GIVEN WITH THE SEED: THE CARDS: each row of YthdhlcicpcnbhaaGreatDoorRows.lean that lists a variable, with what it lists TIED to the program's text (the seventh form; the later family's looks); each row that meets fmt, with fmt's text TOLD by the authors' own Lean function (tested against real Go, not proved from fmt's source: count such statements apart). THE CARD IS WHAT COUNTS. Prove the row's statement (the work); the ties are given (YthdhlcicpcnbhaaGreatDoorTie.lean); close each card by the builder's one call (the guide's Derived/Test/ToyasCard.lean, 'card_holds'). Laid BY PROGRAM, IN A SANDBOX (cutbox-door.mjs). By AI agents, Wed Nov 11 2026. No macro, syntax, notation, axiom, sorry.
-/
import Derived.Test.YthdhlcicpcnbhaaGreatDoorRows
import GoSem.ClaimSeven
namespace Go.Proofs.YthdhlcicpcnbhaaGreatDoor
namespace Rows

/-- THE TIED CARD OF 'mempoollaw22.AdmitBegins'. -/
def admitBeginsCard : Claim7 := { stood := { row := admitBeginsRow, standIns := [], harness := (true, "9ffd68daf68228ea7c765a628a182459b66e1fba03aa9d01e7f1c7f706c74178"), looks := true }, kinds := [], alts := [], laidByText := true, laidKinds := [.data, .pinned], laidTests := true, laidLooks := .later }
def AdmitBeginsCardSaid : Prop := Claim7.holds Tryz.pinned (.plain (OpenSpec.ofChange admitBeginsSpec)) admitBeginsCard

/-- THE TIED CARD OF 'mempoollaw22.AdmitPlays'. -/
def admitPlaysCard : Claim7 := { stood := { row := admitPlaysRow, standIns := [], harness := (true, "9ffd68daf68228ea7c765a628a182459b66e1fba03aa9d01e7f1c7f706c74178"), looks := true }, kinds := [], alts := [], laidByText := true, laidKinds := [.data, .pinned], laidTests := true, laidLooks := .later }
def AdmitPlaysCardSaid : Prop := Claim7.holds Tryz.pinned (.plain (OpenSpec.ofChange admitPlaysSpec)) admitPlaysCard

/-- THE TIED CARD OF 'mempoollaw22.AdmitChecks'. -/
def admitChecksCard : Claim7 := { stood := { row := admitChecksRow, standIns := [], harness := (true, "9ffd68daf68228ea7c765a628a182459b66e1fba03aa9d01e7f1c7f706c74178"), looks := true }, kinds := [], alts := [], laidByText := true, laidKinds := [.data, .pinned], laidTests := true, laidLooks := .later }
def AdmitChecksCardSaid : Prop := Claim7.holds Tryz.pinned (.plain (OpenSpec.ofChange admitChecksSpec)) admitChecksCard

/-- THE TIED CARD OF 'mempoollaw22.AdmitRefuses'. -/
def admitRefusesCard : Claim7 := { stood := { row := admitRefusesRow, standIns := [], harness := (true, "9ffd68daf68228ea7c765a628a182459b66e1fba03aa9d01e7f1c7f706c74178"), looks := true }, kinds := [], alts := [], laidByText := true, laidKinds := [.data, .pinned], laidTests := true, laidLooks := .later }
def AdmitRefusesCardSaid : Prop := Claim7.holds Tryz.pinned (.plain (OpenSpec.ofChange admitRefusesSpec)) admitRefusesCard

/-- THE TIED CARD OF 'mempoollaw22.AdmitBounds'. -/
def admitBoundsCard : Claim7 := { stood := { row := admitBoundsRow, standIns := [], harness := (true, "9ffd68daf68228ea7c765a628a182459b66e1fba03aa9d01e7f1c7f706c74178"), looks := true }, kinds := [], alts := [], laidByText := true, laidKinds := [.data, .pinned], laidTests := true, laidLooks := .later }
def AdmitBoundsCardSaid : Prop := Claim7.holds Tryz.pinned (.plain (OpenSpec.ofChange admitBoundsSpec)) admitBoundsCard

/-- THE TIED CARD OF 'mempoollaw22.AdmitEvicts'. -/
def admitEvictsCard : Claim7 := { stood := { row := admitEvictsRow, standIns := [], harness := (true, "9ffd68daf68228ea7c765a628a182459b66e1fba03aa9d01e7f1c7f706c74178"), looks := true }, kinds := [], alts := [], laidByText := true, laidKinds := [.data, .pinned], laidTests := true, laidLooks := .later }
def AdmitEvictsCardSaid : Prop := Claim7.holds Tryz.pinned (.plain (OpenSpec.ofChange admitEvictsSpec)) admitEvictsCard

/-- THE TIED CARD OF 'mempoollaw22.AdmitAgain'. -/
def admitAgainCard : Claim7 := { stood := { row := admitAgainRow, standIns := [], harness := (true, "9ffd68daf68228ea7c765a628a182459b66e1fba03aa9d01e7f1c7f706c74178"), looks := true }, kinds := [], alts := [], laidByText := true, laidKinds := [.data, .pinned], laidTests := true, laidLooks := .later }
def AdmitAgainCardSaid : Prop := Claim7.holds Tryz.pinned (.plain (OpenSpec.ofChange admitAgainSpec)) admitAgainCard

/-- THE TIED CARD OF 'mempoollaw22.AdmitLists'. -/
def admitListsCard : Claim7 := { stood := { row := admitListsRow, standIns := [], harness := (true, "9ffd68daf68228ea7c765a628a182459b66e1fba03aa9d01e7f1c7f706c74178"), looks := true }, kinds := [], alts := [], laidByText := true, laidKinds := [.data, .pinned], laidTests := true, laidLooks := .later }
def AdmitListsCardSaid : Prop := Claim7.holds Tryz.pinned (.plain (OpenSpec.ofChange admitListsSpec)) admitListsCard

/-- THE SECOND FORM's CARD OF 'mempoollaw22.AdmitBegins'. -/
def admitBeginsUptoCard : Claim7 := { stood := { row := admitBeginsUptoRow, standIns := [], harness := (true, "9ffd68daf68228ea7c765a628a182459b66e1fba03aa9d01e7f1c7f706c74178"), looks := true }, kinds := [], alts := [], laidByText := true, laidKinds := [.data, .pinned], laidTests := true, laidLooks := .later }
def AdmitBeginsUptoCardSaid : Prop := Claim7.holds Tryz.pinned (.plain (OpenSpec.upto admitBeginsSpec)) admitBeginsUptoCard

/-- THE SECOND FORM's CARD OF 'mempoollaw22.AdmitPlays'. -/
def admitPlaysUptoCard : Claim7 := { stood := { row := admitPlaysUptoRow, standIns := [], harness := (true, "9ffd68daf68228ea7c765a628a182459b66e1fba03aa9d01e7f1c7f706c74178"), looks := true }, kinds := [], alts := [], laidByText := true, laidKinds := [.data, .pinned], laidTests := true, laidLooks := .later }
def AdmitPlaysUptoCardSaid : Prop := Claim7.holds Tryz.pinned (.plain (OpenSpec.upto admitPlaysSpec)) admitPlaysUptoCard

/-- THE SECOND FORM's CARD OF 'mempoollaw22.AdmitChecks'. -/
def admitChecksUptoCard : Claim7 := { stood := { row := admitChecksUptoRow, standIns := [], harness := (true, "9ffd68daf68228ea7c765a628a182459b66e1fba03aa9d01e7f1c7f706c74178"), looks := true }, kinds := [], alts := [], laidByText := true, laidKinds := [.data, .pinned], laidTests := true, laidLooks := .later }
def AdmitChecksUptoCardSaid : Prop := Claim7.holds Tryz.pinned (.plain (OpenSpec.upto admitChecksSpec)) admitChecksUptoCard

/-- THE SECOND FORM's CARD OF 'mempoollaw22.AdmitRefuses'. -/
def admitRefusesUptoCard : Claim7 := { stood := { row := admitRefusesUptoRow, standIns := [], harness := (true, "9ffd68daf68228ea7c765a628a182459b66e1fba03aa9d01e7f1c7f706c74178"), looks := true }, kinds := [], alts := [], laidByText := true, laidKinds := [.data, .pinned], laidTests := true, laidLooks := .later }
def AdmitRefusesUptoCardSaid : Prop := Claim7.holds Tryz.pinned (.plain (OpenSpec.upto admitRefusesSpec)) admitRefusesUptoCard

/-- THE SECOND FORM's CARD OF 'mempoollaw22.AdmitBounds'. -/
def admitBoundsUptoCard : Claim7 := { stood := { row := admitBoundsUptoRow, standIns := [], harness := (true, "9ffd68daf68228ea7c765a628a182459b66e1fba03aa9d01e7f1c7f706c74178"), looks := true }, kinds := [], alts := [], laidByText := true, laidKinds := [.data, .pinned], laidTests := true, laidLooks := .later }
def AdmitBoundsUptoCardSaid : Prop := Claim7.holds Tryz.pinned (.plain (OpenSpec.upto admitBoundsSpec)) admitBoundsUptoCard

/-- THE SECOND FORM's CARD OF 'mempoollaw22.AdmitEvicts'. -/
def admitEvictsUptoCard : Claim7 := { stood := { row := admitEvictsUptoRow, standIns := [], harness := (true, "9ffd68daf68228ea7c765a628a182459b66e1fba03aa9d01e7f1c7f706c74178"), looks := true }, kinds := [], alts := [], laidByText := true, laidKinds := [.data, .pinned], laidTests := true, laidLooks := .later }
def AdmitEvictsUptoCardSaid : Prop := Claim7.holds Tryz.pinned (.plain (OpenSpec.upto admitEvictsSpec)) admitEvictsUptoCard

/-- THE SECOND FORM's CARD OF 'mempoollaw22.AdmitAgain'. -/
def admitAgainUptoCard : Claim7 := { stood := { row := admitAgainUptoRow, standIns := [], harness := (true, "9ffd68daf68228ea7c765a628a182459b66e1fba03aa9d01e7f1c7f706c74178"), looks := true }, kinds := [], alts := [], laidByText := true, laidKinds := [.data, .pinned], laidTests := true, laidLooks := .later }
def AdmitAgainUptoCardSaid : Prop := Claim7.holds Tryz.pinned (.plain (OpenSpec.upto admitAgainSpec)) admitAgainUptoCard

/-- THE SECOND FORM's CARD OF 'mempoollaw22.AdmitLists'. -/
def admitListsUptoCard : Claim7 := { stood := { row := admitListsUptoRow, standIns := [], harness := (true, "9ffd68daf68228ea7c765a628a182459b66e1fba03aa9d01e7f1c7f706c74178"), looks := true }, kinds := [], alts := [], laidByText := true, laidKinds := [.data, .pinned], laidTests := true, laidLooks := .later }
def AdmitListsUptoCardSaid : Prop := Claim7.holds Tryz.pinned (.plain (OpenSpec.upto admitListsSpec)) admitListsUptoCard
end Rows
end Go.Proofs.YthdhlcicpcnbhaaGreatDoor
