/- Whether the program of ConsoleQuotes goes anywhere: the kernel's word. -/
import Derived.Test.YtbiaaogbohfimaaGreatDoorCards
import Derived.KernelRfl
namespace Go.Proofs.YtbiaaogbohfimaaGreatDoor.consoleQuotes
open Go.Proofs.YtbiaaogbohfimaaGreatDoor
theorem goes : false = Rows.consoleQuotesRow.goesBy Tryz.pinned.checked.prog := by kernel_rfl
end Go.Proofs.YtbiaaogbohfimaaGreatDoor.consoleQuotes
