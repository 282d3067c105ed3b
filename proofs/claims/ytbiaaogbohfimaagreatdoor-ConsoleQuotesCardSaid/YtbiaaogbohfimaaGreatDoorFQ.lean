/- What the program's names reach: ConsoleQuotes. -/
import Derived.Test.YtbiaaogbohfimaaGreatDoorCards
import Derived.KernelRfl
import Derived.OpenShut
import Derived.Stop.Joined
namespace Go.Proofs.YtbiaaogbohfimaaGreatDoor.consoleQuotes
open Go.Proofs.YtbiaaogbohfimaaGreatDoor
theorem r1 : (Rows.consoleQuotesRow.inPlace == Tryz.prog.inPlace 3) = true := by kernel_rfl
theorem r2 : (Rows.consoleQuotesRow.unfollowed == Tryz.prog.unfollowed 3) = true := by kernel_rfl
theorem r3 : (Rows.consoleQuotesRow.recurses == Tryz.prog.recurses 3) = true := by kernel_rfl
theorem r4 : (Rows.consoleQuotesRow.named == Tryz.prog.varsNamed 3) = true := by kernel_rfl
set_option maxRecDepth 100000 in
theorem closed : joinedFacts Tryz.prog 3 Tryz.f3 (OpenSpec.ofChange Rows.consoleQuotesSpec).bare Rows.consoleQuotesRow = true := by
  simp only [joinedFacts, Bool.and_eq_true]
  and_intros
  all_goals first
    | (with_reducible exact r1)
    | (with_reducible exact r2)
    | (with_reducible exact r3)
    | (with_reducible exact r4)
    | kernel_rfl
end Go.Proofs.YtbiaaogbohfimaaGreatDoor.consoleQuotes
