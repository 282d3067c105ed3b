/- The row of ConsoleQuotes is well formed. -/
import Derived.Test.YtbiaaogbohfimaaGreatDoorCards
import Derived.KernelRfl
namespace Go.Proofs.YtbiaaogbohfimaaGreatDoor.consoleQuotes
open Go.Proofs.YtbiaaogbohfimaaGreatDoor
theorem wf : Rows.consoleQuotesRow.wfByText (OpenSpec.ofChange Rows.consoleQuotesSpec) = true := by kernel_rfl
theorem mainIs : Tryz.pinned.checked.prog.mainIs = some (Rows.consoleQuotesCard.stood.harness.1, Rows.consoleQuotesCard.stood.harness.2.toList) := by kernel_rfl
end Go.Proofs.YtbiaaogbohfimaaGreatDoor.consoleQuotes
