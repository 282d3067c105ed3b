/- Parts of a proof, one behind the other: Ze. -/
import Derived.Test.YtdjcdmnemddjlaaGreatW10
set_option maxRecDepth 20000
set_option maxHeartbeats 16000000
set_option linter.unusedVariables false
set_option linter.unusedSimpArgs false
namespace Go.Proofs.YtdjcdmnemddjlaaGreat
open Go.RowKit
section
set_option maxRecDepth 1000000 in
theorem known_ev : isT (evL memL20 13 []) = true := by kernel_rfl
theorem known_m : SemC Tryz.prog G0 13 [] (.bool true) := sem_evL (by kernel_rfl) known_ev
end
end Go.Proofs.YtdjcdmnemddjlaaGreat
